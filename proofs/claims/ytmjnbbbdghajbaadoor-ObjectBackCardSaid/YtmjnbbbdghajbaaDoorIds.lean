/- Ids: twenty bytes as a value, and what '==' says of two of them. -/
import Derived.Test.YtmjnbbbdghajbaaDoorPlain
import Derived.Test.YtmjnbbbdghajbaaDoorProg
import Derived.ChangeKeysEq
import Derived.WalkKit
import Derived.Shelf.SlicesQ.Load
import Derived.Laws.Tables
import Derived.Deep.MidRow
namespace Go.Proofs.Tre
open Go Go.RowKit Go.Proofs

/-- twenty bytes -/
structure ID where
  l : List UInt8
  h : l.length = 20
deriving DecidableEq

theorem ID.ext' {a b : ID} (h : a.l = b.l) : a = b := by cases a; cases b; simp at h; subst h; rfl
def ID.zero : ID := ⟨List.replicate 20 0, by simp⟩
instance : Inhabited ID := ⟨ID.zero⟩
/-- an id's cells -/
def ID.cells (x : ID) : List Value := Lib.byteCells x.l
theorem ID.cells_length (x : ID) : x.cells.length = 20 := by simp [ID.cells, Lib.byteCells, x.h]
/-- an id as a value -/
abbrev ID.v (x : ID) : Value := .agg x.cells.toArray

theorem loop_eq (P : Program) (w : World) (d : Nat) (xs ys : List UInt8) (hu : P.underlying 5 = some (.int .u8)) (ha : ∀ w, (isAgg 5).run P w = .ok false w) :
    ∀ (n s : Nat), s + n ≤ xs.length → s + n ≤ ys.length →
    ((forIn (List.range' s n 1) (none, PUnit.unit) (fun i (_ : Option Bool × PUnit) => (do
        if !(← Op.equalIn (d + 1) 5 (← part 5 (Lib.byteCells xs).toArray (i * 1)) (← part 5 (Lib.byteCells ys).toArray (i * 1))) then pure (ForInStep.done (some false, PUnit.unit)) else pure (ForInStep.yield (none, PUnit.unit)) : Sem (ForInStep (Option Bool × PUnit))))) : Sem (Option Bool × PUnit)).run P w
      = .ok (if (xs.drop s).take n = (ys.drop s).take n then none else some false, PUnit.unit) w := by
  intro n
  induction n with
  | zero => intro s _ _; simp
  | succ n ih =>
    intro s hx hy
    have hp : ∀ (zs : List UInt8) (h : s < zs.length), (part 5 (Lib.byteCells zs).toArray (s * 1)).run P w = .ok (.int .u8 (zs[s].toNat : Int)) w := by
      intro zs h
      have : (Lib.byteCells zs).toArray[s]? = some (.int .u8 (zs[s].toNat : Int)) := by simp [Lib.byteCells, h]
      simp [part, ha, this, Result.andThen]
    have h1 := hp xs (by omega)
    have h2 := hp ys (by omega)
    rw [List.range'_succ, List.forIn_cons]
    simp only [Sem.run_bind, h1, h2, Result.andThen_ok, run_equalIn_int w d 5 .u8 .u8 _ _ hu]
    have ex : (xs.drop s).take (n + 1) = xs[s] :: (xs.drop (s + 1)).take n := by
      rw [List.drop_eq_getElem_cons (by omega), List.take_succ_cons]
    have ey : (ys.drop s).take (n + 1) = ys[s] :: (ys.drop (s + 1)).take n := by
      rw [List.drop_eq_getElem_cons (by omega), List.take_succ_cons]
    rw [ex, ey]
    have hi := ih (s + 1) (by omega) (by omega)
    by_cases he : xs[s] = ys[s]
    · simp only [he, beq_self_eq_true, Bool.not_true, Bool.false_eq_true, if_false, Sem.run_pure, Result.andThen_ok, List.cons.injEq, true_and]
      exact hi
    · have : ((xs[s].toNat : Int) == (ys[s].toNat : Int)) = false := by
        simp only [beq_eq_false_iff_ne, ne_eq, Int.natCast_inj]
        intro h; exact he (UInt8.toNat_inj.1 h)
      simp [this, he, Result.andThen]

theorem run_equalIn_id (T : TypeId) (hu : Tryd.prog.underlying T = some (.array 20 5)) (x y : ID) (d : Nat) (w : World) : (Op.equalIn (d + 2) T x.v y.v).run Tryd.prog w = .ok (decide (x = y)) w := by
  have hz : ∀ w, (sizeOf 5).run Tryd.prog w = .ok 1 w := Tryd.sizeOf5
  have L := loop_eq Tryd.prog w d x.l y.l Tryd.underlying5 Tryd.isAgg5 20 0 (by rw [x.h]; omega) (by rw [y.h]; omega)
  unfold ID.v ID.cells
  rw [show d + 2 = (d + 1) + 1 from rfl, Op.equalIn]
  simp only [Sem.run_bind, run_underlying hu, Result.andThen_ok, hz, Std.Legacy.Range.forIn_eq_forIn_range', Std.Legacy.Range.size, show (20 - 0 + 1 - 1) / 1 = 20 from rfl]
  refine (congrArg (fun r => Result.andThen r _) L).trans ?_
  have e1 : List.take 20 (List.drop 0 x.l) = x.l := by rw [List.drop_zero]; exact List.take_of_length_le (by rw [x.h]; omega)
  have e2 : List.take 20 (List.drop 0 y.l) = y.l := by rw [List.drop_zero]; exact List.take_of_length_le (by rw [y.h]; omega)
  rw [e1, e2]
  by_cases h : x.l = y.l
  · obtain rfl : x = y := ID.ext' h
    simp [Result.andThen]
  · have hxy : ¬ x = y := fun e => h (by rw [e])
    simp [h, hxy, Result.andThen]

theorem run_eql_id (x y : ID) (w : World) : (binOp .eql 26 x.v y.v).run Tryd.prog w = .ok (.bool (decide (x = y))) w := by
  have h := run_equalIn_id 26 Tryd.underlying26 x y 9998 w
  unfold ID.v at h ⊢
  rw [run_eql_struct, show (10000 : Nat) = 9998 + 2 from rfl, h]
  rfl

theorem run_neq_id (x y : ID) (w : World) : (binOp .neq 26 x.v y.v).run Tryd.prog w = .ok (.bool (!decide (x = y))) w := by
  have h := run_equalIn_id 26 Tryd.underlying26 x y 9998 w
  unfold ID.v at h ⊢
  rw [run_neq_struct, show (10000 : Nat) = 9998 + 2 from rfl, h]
  rfl

theorem eqGuard_id (op : BinOp) (a b : Operand) (x y : ID) (w : World) : (eqGuard op 26 a b x.v y.v).run Tryd.prog w = .ok () w :=
  run_eqGuard_agg (P := Tryd.prog) w op 26 a b x.cells.toArray y.cells.toArray (by kernel_rfl)

/-- twenty cells of an id lie at b, o -/
def HasID (w : World) (b o : Nat) (x : ID) : Prop := ∀ i v, x.cells[i]? = some v → w.cell? ⟨b, o + i, none⟩ = some v

theorem HasID.below {B : Nat} {w w' : World} {b o : Nat} {x : ID} (h : HasID w b o x) (hb : Below B w w') (hlt : b < B) : HasID w' b o x := fun i v hv => hb.keep hlt (h i v hv)

theorem HasID.lt {w : World} {b o : Nat} {x : ID} (h : HasID w b o x) : b < w.heap.size := by
  have hl := x.cells_length
  have := h 0 x.cells[0] (by rw [List.getElem?_eq_getElem])
  exact cell_lt this

theorem HasID.drewN {w : World} {b o : Nat} {x : ID} (h : HasID w b o x) (q : Nat) : HasID (w.drewN q) b o x := fun i v hv => by
  have := h i v hv
  simpa using this

theorem run_load_has (w : World) (b o : Nat) (x : ID) (h : HasID w b o x) : (loadVar 26 ⟨b, o, none⟩).run Tryd.prog w = .ok x.v w := by
  have hl := run_loadCellsFrom_list Tryd.prog w ⟨b, o, none⟩ x.cells 20 x.cells_length (fun j v hj => by rw [Addr.add_lit]; exact h j v hj)
  simp only [loadVar, loadCells, Sem.run_bind, Tryd.isAgg26, Tryd.sizeOf26, Result.andThen_ok, if_true, hl, Sem.run_pure]

theorem HasID.unique {w : World} {b o : Nat} {x y : ID} (h : HasID w b o x) (k : HasID w b o y) : x = y := by
  apply ID.ext'
  apply List.ext_getElem (by rw [x.h, y.h])
  intro i hi hj
  have a := h i (.int .u8 (x.l[i].toNat : Int)) (by simp [ID.cells, Lib.byteCells, hi])
  have c := k i (.int .u8 (y.l[i].toNat : Int)) (by simp [ID.cells, Lib.byteCells, hj])
  rw [a] at c
  simp only [Option.some.injEq, Value.int.injEq, true_and, Int.natCast_inj] at c
  exact UInt8.toNat_inj.1 c

/-- an id lies there -/
def IsID (w : World) (b o : Nat) : Prop := ∃ x, HasID w b o x
open Classical in
/-- the id that lies there -/
noncomputable def idOf (w : World) (b o : Nat) : ID := if h : IsID w b o then h.choose else ID.zero

theorem HasID.is {w : World} {b o : Nat} {x : ID} (h : HasID w b o x) : IsID w b o := ⟨x, h⟩
theorem HasID.of {w : World} {b o : Nat} {x : ID} (h : HasID w b o x) : idOf w b o = x := by
  unfold idOf
  rw [dif_pos h.is]
  exact HasID.unique h.is.choose_spec h
theorem IsID.has {w : World} {b o : Nat} (h : IsID w b o) : HasID w b o (idOf w b o) := by
  obtain ⟨x, hx⟩ := h
  rw [hx.of]; exact hx

theorem run_load_id (w : World) (b o : Nat) (h : IsID w b o) : (loadVar 26 ⟨b, o, none⟩).run Tryd.prog w = .ok (idOf w b o).v w := run_load_has w b o _ h.has

theorem HasID_congr {w w' : World} {b o : Nat} (h : ∀ i, w'.cell? ⟨b, o + i, none⟩ = w.cell? ⟨b, o + i, none⟩) (x : ID) : HasID w' b o x = HasID w b o x := by
  unfold HasID
  simp only [h]
theorem IsID_congr {w w' : World} {b o : Nat} (h : ∀ i, w'.cell? ⟨b, o + i, none⟩ = w.cell? ⟨b, o + i, none⟩) : IsID w' b o = IsID w b o := by
  unfold IsID
  simp only [HasID_congr h]
theorem idOf_congr {w w' : World} {b o : Nat} (h : ∀ i, w'.cell? ⟨b, o + i, none⟩ = w.cell? ⟨b, o + i, none⟩) : idOf w' b o = idOf w b o := by
  by_cases hi : IsID w b o
  · obtain ⟨x, hx⟩ := hi
    have hx' : HasID w' b o x := by rw [HasID_congr h]; exact hx
    rw [hx.of, hx'.of]
  · unfold idOf
    rw [dif_neg hi, dif_neg (by rw [IsID_congr h]; exact hi)]
theorem IsID.below {B : Nat} {w w' : World} {b o : Nat} (h : IsID w b o) (hb : Below B w w') (hlt : b < B) : IsID w' b o := (h.has.below hb hlt).is
theorem idOf_below {B : Nat} {w w' : World} {b o : Nat} {x : ID} (h : IsID w b o) (hx : idOf w b o = x) (hb : Below B w w') (hlt : b < B) : idOf w' b o = x := by
  rw [← hx]; exact (h.has.below hb hlt).of
theorem IsID_drew (w : World) (b o : Nat) : IsID w.drew b o = IsID w b o := IsID_congr fun i => by simp
theorem idOf_drew (w : World) (b o : Nat) : idOf w.drew b o = idOf w b o := idOf_congr fun i => by simp
theorem IsID_drewN (w : World) (n b o : Nat) : IsID (w.drewN n) b o = IsID w b o := IsID_congr fun i => by simp
theorem idOf_drewN (w : World) (n b o : Nat) : idOf (w.drewN n) b o = idOf w b o := idOf_congr fun i => by simp
theorem IsID_alloc_past (w : World) (c : Obj) (b o : Nat) (h : b < w.heap.size) : IsID (w.alloc c) b o = IsID w b o := IsID_congr fun _ => World.cell?_alloc_past _ _ _ h
theorem idOf_alloc_past (w : World) (c : Obj) (b o : Nat) (h : b < w.heap.size) : idOf (w.alloc c) b o = idOf w b o := idOf_congr fun _ => World.cell?_alloc_past _ _ _ h
theorem HasID_alloc_at (w : World) (x : ID) (t : TypeId) (n : Nat) (hn : n = w.heap.size) : HasID (w.alloc (.cells x.cells.toArray t)) n 0 x := fun i v hv => by
  rw [World.cell?_alloc_at _ _ _ _ hn]
  simpa using hv
theorem IsID_alloc_at (w : World) (x : ID) (t : TypeId) (n : Nat) (hn : n = w.heap.size) : IsID (w.alloc (.cells x.cells.toArray t)) n 0 = True := eq_true (HasID_alloc_at w x t n hn).is
theorem idOf_alloc_at (w : World) (x : ID) (t : TypeId) (n : Nat) (hn : n = w.heap.size) : idOf (w.alloc (.cells x.cells.toArray t)) n 0 = x := (HasID_alloc_at w x t n hn).of

theorem id_one (x : ID) : ∀ v ∈ x.cells, v.oneCell' = true := by
  intro v hv
  simp only [ID.cells, Lib.byteCells, List.mem_map] at hv
  obtain ⟨b, _, rfl⟩ := hv
  rfl

theorem setRow_alloc (w : World) (zs cs : Array Value) (t : TypeId) : (w.alloc (.cells zs t)).setRow w.heap.size cs = w.alloc (.cells cs t) := by
  unfold World.setRow World.alloc
  simp only [World.mk.injEq, and_true]
  apply Array.ext
  · simp
  · intro i h1 h2
    simp only [Array.getElem_modify, Array.getElem_push]
    by_cases h : i = w.heap.size
    · subst h; simp
    · have : i < w.heap.size := by simp at h2; omega
      rw [if_neg (by omega)]
      simp [this]

theorem run_store_id (w : World) (n : Nat) (x : ID) (zs : Array Value) (hz : zs.size = 20) (hn : n = w.heap.size) :
    (storeVar 26 ⟨n, 0, none⟩ x.v).run Tryd.prog (w.alloc (.cells zs 26)) = .ok () (w.alloc (.cells x.cells.toArray 26)) := by
  subst hn
  have hh : (w.alloc (.cells zs 26)).heap[w.heap.size]? = some (.cells zs 26 (0, 0)) := heap_alloc_new w _
  have hs := run_storeCells_from (P := Tryd.prog) w.heap.size 26 x.cells 0 zs (w.alloc (.cells zs 26)) hh (by rw [x.cells_length, hz]) (id_one x)
  have hc : (ID.v x).cells = x.cells.toArray := rfl
  simp only [storeVar, Sem.run_bind, hc, List.size_toArray, x.cells_length, Tryd.sizeOf26, Result.andThen_ok, ne_eq, not_true_eq_false, if_false]
  rw [hs]
  congr 1
  simp only [List.take_zero, List.nil_append]
  exact setRow_alloc w _ _ _
/-! ### The walk's rules for ids: whole operations -/
/-- a load of an id -/
noncomputable def runLoadId (w : World) (v : Value) : Result Next := Sem.run Tryd.prog (do pure (.value (← Instr.loadAt 26 v))) w
theorem exec_load_id (ρ : Operand → Value) (d : Option Tmp) (x : Operand) (ty : TypeId) (pos : String) (af : Array Edge) (g : Option (Nat × Bool)) (w : World) :
    Sem.run Tryd.prog (execOp ρ ⟨d, .load 26 x, ty, pos, af, g⟩) w = runLoadId w (ρ x) := rfl
theorem runLoadId_at (w : World) (b o : Nat) (h : IsID w b o) : runLoadId w (.pointer (some ⟨b, o, none⟩)) = .ok (.value (idOf w b o).v) w := by
  unfold runLoadId
  simp only [Instr.loadAt, Instr.sureAddr, Sem.run_bind, Sem.run_pure, Result.andThen_ok, run_load_id w b o h]

/-- a store of an id -/
noncomputable def runStoreId (w : World) (a v : Value) : Result Next := Sem.run Tryd.prog (do Instr.storeAt 26 a v; pure .skip) w
theorem exec_store_id (ρ : Operand → Value) (d : Option Tmp) (a x : Operand) (ty : TypeId) (pos : String) (af : Array Edge) (g : Option (Nat × Bool)) (w : World) :
    Sem.run Tryd.prog (execOp ρ ⟨d, .store 26 a x, ty, pos, af, g⟩) w = runStoreId w (ρ a) (ρ x) := rfl
theorem runStoreId_new (w : World) (n : Nat) (x : ID) (zs : Array Value) (hz : zs.size = 20) (hn : n = w.heap.size) :
    runStoreId (w.alloc (.cells zs 26)) (.pointer (some ⟨n, 0, none⟩)) x.v = .ok .skip (w.alloc (.cells x.cells.toArray 26)) := by
  unfold runStoreId
  simp only [Instr.storeAt, Instr.sureAddr, Sem.run_bind, Sem.run_pure, Result.andThen_ok, run_store_id w n x zs hz hn]

/-- two ids held against each other -/
noncomputable def runEqId (w : World) (x y : Operand) (a b : Value) : Result Next := Sem.run Tryd.prog (do eqGuard .eql 26 x y a b; pure (.value (← binOp .eql 26 a b))) w
theorem exec_eq_id (ρ : Operand → Value) (d : Option Tmp) (x y : Operand) (yt ty : TypeId) (pos : String) (af : Array Edge) (g : Option (Nat × Bool)) (w : World) :
    Sem.run Tryd.prog (execOp ρ ⟨d, .binOp .eql 26 x y yt, ty, pos, af, g⟩) w = runEqId w x y (ρ x) (ρ y) := by
  unfold runEqId execOp
  simp only [bind_assoc]
theorem runEqId_at (w : World) (x y : Operand) (a b : ID) : runEqId w x y a.v b.v = .ok (.value (.bool (decide (a = b)))) w := by
  unfold runEqId
  simp only [Sem.run_bind, Sem.run_pure, Result.andThen_ok, eqGuard_id, run_eql_id]
theorem runEqId_zero (w : World) (x y : Operand) (a : ID) : runEqId w x y a.v (.agg #[.int .u8 0, .int .u8 0, .int .u8 0, .int .u8 0, .int .u8 0, .int .u8 0, .int .u8 0, .int .u8 0, .int .u8 0, .int .u8 0, .int .u8 0, .int .u8 0, .int .u8 0, .int .u8 0, .int .u8 0, .int .u8 0, .int .u8 0, .int .u8 0, .int .u8 0, .int .u8 0]) = .ok (.value (.bool (decide (a = ID.zero)))) w :=
  runEqId_at w x y a ID.zero
noncomputable def runNeId (w : World) (x y : Operand) (a b : Value) : Result Next := Sem.run Tryd.prog (do eqGuard .neq 26 x y a b; pure (.value (← binOp .neq 26 a b))) w
theorem exec_ne_id (ρ : Operand → Value) (d : Option Tmp) (x y : Operand) (yt ty : TypeId) (pos : String) (af : Array Edge) (g : Option (Nat × Bool)) (w : World) :
    Sem.run Tryd.prog (execOp ρ ⟨d, .binOp .neq 26 x y yt, ty, pos, af, g⟩) w = runNeId w x y (ρ x) (ρ y) := by
  unfold runNeId execOp
  simp only [bind_assoc]
theorem runNeId_at (w : World) (x y : Operand) (a b : ID) : runNeId w x y a.v b.v = .ok (.value (.bool (!decide (a = b)))) w := by
  unfold runNeId
  simp only [Sem.run_bind, Sem.run_pure, Result.andThen_ok, eqGuard_id, run_neq_id]
theorem runNeId_zero (w : World) (x y : Operand) (a : ID) : runNeId w x y a.v (.agg #[.int .u8 0, .int .u8 0, .int .u8 0, .int .u8 0, .int .u8 0, .int .u8 0, .int .u8 0, .int .u8 0, .int .u8 0, .int .u8 0, .int .u8 0, .int .u8 0, .int .u8 0, .int .u8 0, .int .u8 0, .int .u8 0, .int .u8 0, .int .u8 0, .int .u8 0, .int .u8 0]) = .ok (.value (.bool (!decide (a = ID.zero)))) w :=
  runNeId_at w x y a ID.zero
/-- an id stored into cells that are there -/
theorem runStoreId_mid (w : World) (g o : Nat) (x : ID) (h : w.there g o 20) : runStoreId w (.pointer (some ⟨g, o, none⟩)) x.v = .ok .skip (w.setCells g o x.cells) := by
  unfold runStoreId
  have := run_storeAt_mid (P := Tryd.prog) w g o 26 x.cells.toArray (by simpa [x.cells_length] using h) (by simp only [List.size_toArray, x.cells_length]; kernel_rfl) (all_oneCell_toArray (id_one x))
  simp only [Sem.run_bind, this, Result.andThen_ok, Sem.run_pure]
theorem runStoreId_mid_zero (w : World) (g o : Nat) (h : w.there g o 20) : runStoreId w (.pointer (some ⟨g, o, none⟩)) (.agg #[.int .u8 0, .int .u8 0, .int .u8 0, .int .u8 0, .int .u8 0, .int .u8 0, .int .u8 0, .int .u8 0, .int .u8 0, .int .u8 0, .int .u8 0, .int .u8 0, .int .u8 0, .int .u8 0, .int .u8 0, .int .u8 0, .int .u8 0, .int .u8 0, .int .u8 0, .int .u8 0]) = .ok .skip (w.setCells g o ID.zero.cells) :=
  runStoreId_mid w g o ID.zero h

theorem below_setCells {B : Nat} {a w : World} (h : Below B a w) (g : Nat) (hg : B ≤ g) : ∀ (vs : List Value) (o : Nat), Below B a (w.setCells g o vs) := by
  intro vs
  induction vs generalizing w with
  | nil => intro o; exact h
  | cons v r ih => intro o; exact ih (h.setCell (p := ⟨g, o, none⟩) hg v) (o + 1)

theorem size_setCells (w : World) (g : Nat) : ∀ (vs : List Value) (o : Nat), (w.setCells g o vs).heap.size = w.heap.size := by
  intro vs
  induction vs generalizing w with
  | nil => intro o; rfl
  | cons v r ih => intro o; rw [World.setCells, ih]; simp [World.setCell]

theorem heap_setCells_other (w : World) (g : Nat) (i : Nat) (h : i ≠ g) : ∀ (vs : List Value) (o : Nat), (w.setCells g o vs).heap[i]? = w.heap[i]? := by
  intro vs
  induction vs generalizing w with
  | nil => intro o; rfl
  | cons v r ih => intro o; rw [World.setCells, ih, Below.heap_setCell _ _ _ _ h]

/-- a load of a whole struct of type 29 -/
noncomputable def runLoadRec (w : World) (v : Value) : Result Next := Sem.run Tryd.prog (do pure (.value (← Instr.loadAt 29 v))) w
theorem exec_load_rec (ρ : Operand → Value) (d : Option Tmp) (x : Operand) (ty : TypeId) (pos : String) (af : Array Edge) (g : Option (Nat × Bool)) (w : World) :
    Sem.run Tryd.prog (execOp ρ ⟨d, .load 29 x, ty, pos, af, g⟩) w = runLoadRec w (ρ x) := rfl
/-- a struct of thirty cells lies there -/
def IsRec (w : World) (b : Nat) : Prop := ∃ cs t fr, w.heap[b]? = some (.cells cs t fr) ∧ cs.size = 30
/-- its cells -/
def recOf (w : World) (b : Nat) : Array Value := match w.heap[b]? with | some (.cells cs _ _) => cs | _ => #[]
theorem runLoadRec_at (w : World) (b : Nat) (h : IsRec w b) : runLoadRec w (.pointer (some ⟨b, 0, none⟩)) = .ok (.value (.agg (recOf w b))) w := by
  obtain ⟨cs, t, fr, hb, hs⟩ := h
  have hr : recOf w b = cs := by unfold recOf; rw [hb]
  have := run_loadVar_row (P := Tryd.prog) w b t 29 cs fr _ hb Tryd.underlying29 rfl (by rw [hs]; kernel_rfl)
  unfold runLoadRec
  simp only [Instr.loadAt, Instr.sureAddr, Sem.run_bind, Sem.run_pure, Result.andThen_ok, this, hr]

/-- a store into a new variable -/
theorem wpList_store_new {P : Program} {ops : Array Oper} {rest : List Oper} {op : Oper} {a : Act} {w : World} {Q : Exit → Act → World → Prop} (hgd : op.guard = none) (ty : TypeId) (x y : Operand) (ho : op.op = .store ty x y)
    (n : Nat) (zs cs : Array Value) (hx : a.eval x = .pointer (some ⟨n, 0, none⟩)) (hy : a.eval y = .agg cs) (hn : n = w.heap.size) (hz : zs.size = cs.size)
    (hi : (P.info? ty).map (·.size) = some cs.size) (h1 : cs.all (·.oneCell') = true)
    (h : wpList P ops Q rest (a.put op.dst undef) (w.alloc (.cells cs ty))) : wpList P ops Q (op :: rest) a (w.alloc (.cells zs ty)) :=
  wpList_plain hgd fun _ hK => by
    subst hn
    unfold Oper.wp execOp
    have hs : (storeVar ty ⟨w.heap.size, 0, none⟩ (.agg cs)).run P (w.alloc (.cells zs ty)) = .ok () (w.alloc (.cells cs ty)) := by
      have hh : (w.alloc (.cells zs ty)).heap[w.heap.size]? = some (.cells zs ty (0, 0)) := heap_alloc_new w _
      have hs := run_storeCells_from (P := P) w.heap.size ty cs.toList 0 zs (w.alloc (.cells zs ty)) hh (by simp [hz]) (fun v hv => by
        exact (Array.all_eq_true_iff_forall_mem.1 h1) v (by simpa using hv))
      cases hq : P.info? ty with
      | none => simp [hq] at hi
      | some i =>
        have hs' : cs.size = i.size := by simp [hq] at hi; omega
        simp only [List.take_zero, List.nil_append, Array.toArray_toList] at hs
        simp [storeVar, sizeOf, typeInfo, hq, Value.cells, hs', hs, setRow_alloc]
    simp only [ho, hx, hy, Instr.storeAt, Instr.sureAddr, Sem.run_bind, Sem.run_pure, Result.andThen_ok, hs]
    exact hK _ _ h

end Go.Proofs.Tre
