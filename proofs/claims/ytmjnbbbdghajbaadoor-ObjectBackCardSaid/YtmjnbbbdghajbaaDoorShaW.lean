/- SHA-1: the schedule. -/
import Derived.Test.YtmjnbbbdghajbaaDoorSha
import Derived.BigQuiet
import Derived.Deep.MidRow
namespace Go.Proofs.Tre
open Go Go.RowKit Go.Proofs

def wd (x0 x1 x2 x3 : Int) : Int := bits .or .u32 (bits .or .u32 (bits .or .u32 (x0 % 4294967296 * 16777216 % 4294967296) (x1 % 4294967296 * 65536 % 4294967296)) (x2 % 4294967296 * 256 % 4294967296)) (x3 % 4294967296)
def byI (m : List UInt8) (i : Nat) : Int := ((m.getD i 0).toNat : Int)
def wordAt (m : List UInt8) (i : Nat) : Int := wd (byI m (4 * i)) (byI m (4 * i + 1)) (byI m (4 * i + 2)) (byI m (4 * i + 3))
def xor4 (a b c d : Int) : Int := bits .xor .u32 (bits .xor .u32 (bits .xor .u32 a b) c) d
/-- the schedule of a block's 64 bytes -/
def sch (m : List UInt8) (t : Nat) : Int := if h : t < 16 then wordAt m t else rotN 1 (xor4 (sch m (t - 3)) (sch m (t - 8)) (sch m (t - 14)) (sch m (t - 16)))
termination_by t
decreasing_by all_goals omega

theorem sch_lo (m : List UInt8) (t : Nat) (h : t < 16) : sch m t = wordAt m t := by rw [sch, dif_pos h]
theorem sch_hi (m : List UInt8) (t : Nat) (h : ¬ t < 16) : sch m t = rotN 1 (xor4 (sch m (t - 3)) (sch m (t - 8)) (sch m (t - 14)) (sch m (t - 16))) := by rw [sch, dif_neg h]

set_option maxRecDepth 100000 in
theorem word_any (w : World) (b o n c : Nat) (x0 x1 x2 x3 : Int) (hn : 4 ≤ n) (h0 : w.cell? ⟨b, o, none⟩ = some (.int .u8 x0)) (h1 : w.cell? ⟨b, o + 1, none⟩ = some (.int .u8 x1)) (h2 : w.cell? ⟨b, o + 2, none⟩ = some (.int .u8 x2)) (h3 : w.cell? ⟨b, o + 3, none⟩ = some (.int .u8 x3)) :
    Calls Tryd.prog 163 #[.slice (some ⟨b, o, none⟩) n c] w fun e w' => e = .returned (wU (wd x0 x1 x2 x3)) ∧ ∃ q, w' = w.drewN q := by
  have g0 : 0 < n := by omega
  have g1 : decide ((1 : Int) < n) = true := by simp; omega
  have g2 : decide ((2 : Int) < n) = true := by simp; omega
  have g3 : decide ((3 : Int) < n) = true := by simp; omega
  have k1 : (1 : Int) < n := by omega
  have k2 : (2 : Int) < n := by omega
  have k3 : (3 : Int) < n := by omega
  clear hn
  go_enter Tryd.func163, Tryd.ntmps163
  go_wp2_with fail
  go_quiet (fail)
  go_wp2
  go_ret
  exact ⟨rfl, _, rfl⟩

/-- numbers in a row of n cells: k of them known -/
structure Arr (g n k : Nat) (f : Nat → Int) (w : World) : Prop where
  lt : g < w.heap.size
  le : k ≤ n
  at_ : ∀ i, i < k → w.cell? ⟨g, i, none⟩ = some (wU (f i))
  there : w.there g 0 n

theorem Arr.below {g n k B : Nat} {f : Nat → Int} {w w' : World} (h : Arr g n k f w) (hb : Below B w w') (hg : g < B) : Arr g n k f w' :=
  ⟨Nat.lt_of_lt_of_le h.lt hb.size, h.le, fun i hi => hb.keep hg (h.at_ i hi), fun j hj => by
    rw [hb.cell (p := ⟨g, 0 + j, none⟩) hg, hb.frozen (p := ⟨g, 0 + j, none⟩) hg]
    exact h.there j hj⟩

theorem Arr.drewN {g n k : Nat} {f : Nat → Int} {w : World} (h : Arr g n k f w) (q : Nat) : Arr g n k f (w.drewN q) := h.below (below_drewN (Below.refl _ _) q) h.lt

theorem Arr.push {g n k : Nat} {f : Nat → Int} {w : World} (h : Arr g n k f w) (hk : k < n) (x : Int) (hx : f k = x) : Arr g n (k + 1) f (w.setCell ⟨g, k, none⟩ (wU x)) := by
  have ht := World.there_setCells h.there g k [wU x]
  have hsome : ∀ j, j < [wU x].length → (w.cell? ⟨g, k + j, none⟩).isSome = true := fun j hj => by
    have := (h.there (k + j) (by simp at hj; omega)).1
    rwa [Nat.zero_add] at this
  have e := World.cell?_setCells_in g [wU x] k w hsome 0 (by simp)
  simp only [World.setCells, Nat.add_zero, List.getElem_cons_zero] at e ht
  refine ⟨by simpa using h.lt, hk, fun i hi => ?_, ht⟩
  by_cases hik : i = k
  · subst hik; rw [hx]; exact e
  · exact (World.cell?_setCell_other _ _ _ _ (fun e => hik (by cases e; rfl))).trans (h.at_ i (by omega))

theorem Arr.other {g n k : Nat} {f : Nat → Int} {w : World} (h : Arr g n k f w) (g' : Nat) (hg : g' ≠ g) (o : Nat) (v : Value) : Arr g n k f (w.setCell ⟨g', o, none⟩ v) := by
  have ht := World.there_setCells h.there g' o [v]
  simp only [World.setCells] at ht
  exact ⟨by simpa using h.lt, h.le, fun i hi => (World.cell?_setCell_other _ _ _ _ (fun e => hg (by cases e; rfl))).trans (h.at_ i hi), ht⟩

/-- a new variable: what it is, not cell by cell -/
theorem wpList_alloc_arr {ops : Array Oper} {rest : List Oper} {op : Oper} {a : Act} {w : World} {Q : Exit → Act → World → Prop} (hgd : op.guard = none) (ty : TypeId) (ho : op.op = .alloc ty) (z : Array Value)
    (hz : ∀ W : World, (zeroValue ty).run Tryd.prog W = .ok (.agg z) W)
    (h : ∀ w', w'.there w.heap.size 0 z.size → Below w.heap.size w w' → w'.heap.size = w.heap.size + 1 → wpList Tryd.prog ops Q rest (a.put op.dst (.pointer (some ⟨w.heap.size, 0, none⟩))) w') : wpList Tryd.prog ops Q (op :: rest) a w := by
  refine wpList_plain hgd fun _ hK => ?_
  unfold Oper.wp execOp
  have hr : (Instr.alloc ty true (.tuple #[])).run Tryd.prog w = .ok (.pointer (some ⟨w.heap.size, 0, none⟩)) (w.alloc (.cells z ty)) := by
    simp only [Instr.alloc, Sem.run_bind, hz, Result.andThen_ok, newVar, Sem.run_pure]
    rfl
  simp only [ho, hr, Sem.run_bind, Result.andThen_ok, Sem.run_pure]
  refine hK _ _ (h (w.alloc (.cells z ty)) (fun j hj => ?_) ((Below.refl _ _).alloc (Nat.le_refl _) _) (by simp))
  rw [Nat.zero_add]
  refine ⟨?_, World.frozen?_alloc_at _ _ _ _ rfl⟩
  rw [World.cell?_alloc_at _ _ _ _ rfl]
  simp [hj]

theorem zero_of {t : TypeId} {z : Array Value} (h : (Tryd.prog.info? t).bind (·.zero) = some (.agg z)) (W : World) : (zeroValue t).run Tryd.prog W = .ok (.agg z) W := by
  cases hi : Tryd.prog.info? t with
  | none => rw [hi] at h; cases h
  | some i =>
    rw [hi] at h
    have hz : i.zero = some (.agg z) := h
    simp [zeroValue, typeInfo, hi, hz]

theorem zero110 : (Tryd.prog.info? 110).bind (·.zero) = some (.agg (Array.replicate 80 (.int .u32 0))) := by kernel_rfl
theorem zero108 : (Tryd.prog.info? 108).bind (·.zero) = some (.agg (Array.replicate 5 (.int .u32 0))) := by kernel_rfl
theorem zero26 : (Tryd.prog.info? 26).bind (·.zero) = some (.agg (Array.replicate 20 (.int .u8 0))) := by kernel_rfl
theorem sz110 : (Tryd.prog.info? 110).map (·.size) = some 80 := by kernel_rfl
theorem sz108 : (Tryd.prog.info? 108).map (·.size) = some 5 := by kernel_rfl
theorem un110 : Tryd.prog.underlying 110 = some (.array 80 107) := by kernel_rfl
theorem un108 : Tryd.prog.underlying 108 = some (.array 5 107) := by kernel_rfl
theorem zv110 : ∃ z : Array Value, z.size = 80 ∧ ∀ W, (zeroValue 110).run Tryd.prog W = .ok (.agg z) W := ⟨_, by rw [Array.size_replicate], zero_of zero110⟩
theorem zv108 : ∃ z : Array Value, z.size = 5 ∧ ∀ W, (zeroValue 108).run Tryd.prog W = .ok (.agg z) W := ⟨_, by rw [Array.size_replicate], zero_of zero108⟩
theorem zv26 : ∃ z : Array Value, z.size = 20 ∧ ∀ W, (zeroValue 26).run Tryd.prog W = .ok (.agg z) W := ⟨_, by rw [Array.size_replicate], zero_of zero26⟩

/-- all of them as a value -/
def arrV (n : Nat) (f : Nat → Int) : Value := .agg ((List.range n).map fun i => wU (f i)).toArray

/-- an array or a struct in memory, returned -/
theorem ret_arr {fn : Func} {R : Ending → World → Prop} {a : Act} {W : World} {g t : Nat} {ty : TypeId} {cs : List Value} {d : TypeDesc} (hr : fn.results = #[.cell t ty]) (h2 : a.tmps[t]? = some (.pointer (some ⟨g, 0, none⟩)))
    (hc : W.rangeAt g 0 cs) (hu : Tryd.prog.underlying ty = some d) (hd : d.isRow = true) (hi : (Tryd.prog.info? ty).map (·.size) = some cs.length) (hdf : a.defers = []) (hR : R (.returned (.agg cs.toArray)) W) : bodyPost Tryd.prog fn R .ret a W := by
  refine bodyPost_ret (v := .agg cs.toArray) ?_ hdf hR
  have hl := run_loadVar_mid (P := Tryd.prog) W g 0 ty cs d hc hu hd hi
  simp [results, hr, h2, asAddr, hl]

theorem cell_other {w : World} {g k j : Nat} {u x : Value} (h : k ≠ j) (hc : w.cell? ⟨g, j, none⟩ = some u) : ((w.setCell ⟨g, k, none⟩ x).drew).cell? ⟨g, j, none⟩ = some u := by
  show (w.setCell ⟨g, k, none⟩ x).cell? ⟨g, j, none⟩ = some u
  exact (World.cell?_setCell_other w _ _ _ (fun e => h (congrArg Addr.off e))).trans hc

theorem byI_cell {w : World} {p : Option Addr} {m : List UInt8} (h : InB w p m) {b o : Nat} (hp : p = some ⟨b, o, none⟩) (i : Nat) (hi : i < m.length) : w.cell? ⟨b, o + i, none⟩ = some (.int .u8 (byI m i)) := by
  obtain ⟨b', o', e, _, hc⟩ := h (by omega)
  rw [hp] at e
  cases e
  rw [hc i hi]
  simp [byI, List.getD, hi]

set_option maxHeartbeats 1000000 in
set_option maxRecDepth 100000 in
theorem schedule_any (w : World) (b o c : Nat) (m : List UInt8) (hm : m.length = 64) (hi : InB w (some ⟨b, o, none⟩) m) (hc : 64 ≤ c) :
    Calls Tryd.prog 136 #[.slice (some ⟨b, o, none⟩) 64 c] w fun e w' => e = .returned (arrV 80 (sch m)) ∧ Below w.heap.size w w' := by
  obtain ⟨z, hz, hzv⟩ := zv110
  have hbl : b < w.heap.size := by obtain ⟨_, _, e, h, _⟩ := hi (by omega); cases e; exact h
  go_enter Tryd.func136, Tryd.ntmps136
  go_wp2_with (first
    | (with_reducible refine wpList_alloc_arr (op := ⟨some 2, _, _, _, _, _⟩) rfl 110 rfl z hzv ?_; intro wA hA hbA hsA)
    | (with_reducible refine wpList_alloc_arr (op := ⟨some 3, _, _, _, _, _⟩) rfl 110 rfl z hzv ?_; intro w1 ht hb hs))
  rw [hsA] at hb hs ht
  rw [hz] at hA ht
  have hA1 : w1.there w.heap.size 0 80 := fun j hj => by
    rw [hb.cell (p := ⟨w.heap.size, 0 + j, none⟩) (by show w.heap.size < w.heap.size + 1; omega), hb.frozen (p := ⟨w.heap.size, 0 + j, none⟩) (by show w.heap.size < w.heap.size + 1; omega)]
    exact hA j hj
  have hbw : Below w.heap.size w w1 := hbA.trans (hb.mono (by omega))
  have hi1 := hi.below hbw
  have hr1 : Arr (w.heap.size + 1) 80 0 (sch m) w1 := ⟨by omega, by omega, fun i hi => by omega, ht⟩
  clear hA hbA hb hzv hz hi ht hsA
  go_loopw [5] (fun i wr => ∃ k : Nat, k ≤ 80 ∧ i = .int .i64 (k : Int) ∧ Arr (w.heap.size + 1) 80 k (sch m) wr ∧ Below (w.heap.size + 1) w1 wr)
    (fun i _ => 80 - (intOf i).toNat)
  case atStart => exact ⟨0, by omega, rfl, hr1, Below.refl _ _⟩
  case round =>
    obtain ⟨k, hk, rfl, hr, hbr⟩ := hrel
    have hir : InB wr (some ⟨b, o, none⟩) m := fun hl => by
      obtain ⟨b', o', e, h1, h2⟩ := hi1 hl
      cases e
      exact ⟨b, o, rfl, Nat.lt_of_lt_of_le h1 hbr.size, fun i hi => hbr.keep (by omega) (h2 i hi)⟩
    clear hr1 hi1
    by_cases h80 : k < 80
    · have d80 : decide ((k : Int) < 80) = true := by simp; omega
      have i80 : (k : Int) < 80 := by omega
      by_cases h16 : k < 16
      · have d16 : decide ((k : Int) < 16) = true := by simp; omega
        have hsl : ∀ W, (Instr.slice 30 (.slice (some ⟨b, o, none⟩) 64 c) (some (.int .i64 (4 * (k : Int)))) none none).run Tryd.prog W = .ok (.slice (some ⟨b, o + 4 * k, none⟩) (64 - 4 * k) (c - 4 * k)) W := fun W => by
          have := slice_from W (some ⟨b, o, none⟩) 64 c (4 * k) (by omega)
          rw [if_neg (by omega), Option.map_some, Addr.add_lit] at this
          exact this
        have cw := word_any wr b (o + 4 * k) (64 - 4 * k) (c - 4 * k) _ _ _ _ (by omega) (byI_cell hir rfl (4 * k) (by omega)) (byI_cell hir rfl (4 * k + 1) (by omega)) (byI_cell hir rfl (4 * k + 2) (by omega)) (byI_cell hir rfl (4 * k + 3) (by omega))
        obtain ⟨x, hx⟩ : ∃ x, sch m k = x := ⟨_, rfl⟩
        rw [show wd (byI m (4 * k)) (byI m (4 * k + 1)) (byI m (4 * k + 2)) (byI m (4 * k + 3)) = x from by rw [← hx, sch_lo m k h16]; rfl] at cw
        have HX := Lib.hid hx
        have HR := Lib.hid hr
        clear hx hr hir h16 h80
        go_wp2_with fail
        refine cw.mono ?_
        rintro e w2 ⟨rfl, q, rfl⟩
        have hr2 := (HR.out.drewN q)
        have hb2 := below_drewN hbr q
        obtain ⟨y, hy⟩ := Option.isSome_iff_exists.1 (hr2.there k (by omega)).1
        have hf := (hr2.there k (by omega)).2
        rw [Nat.zero_add] at hy hf
        have HR3 := Lib.hid (hr2.push (by omega) x HX.out)
        have HB3 := Lib.hid (below_setCells hb2 (w.heap.size + 1) (Nat.le_refl _) [wU x] k)
        clear hr2 hb2 hbr
        go_wp2
        refine ⟨⟨k + 1, by omega, rfl, HR3.out, HB3.out⟩, ?_⟩
        simp [intOf]; omega
      · have d16 : decide ((k : Int) < 16) = false := by simp; omega
        have hk0 : (0 : Int) ≤ k := by omega
        have c3 := hr.at_ (k - 3) (by omega)
        have c8 := hr.at_ (k - 8) (by omega)
        have c14 := hr.at_ (k - 14) (by omega)
        have c16 := hr.at_ (k - 16) (by omega)
        have hx := sch_hi m k h16
        obtain ⟨x3, h3⟩ : ∃ x, sch m (k - 3) = x := ⟨_, rfl⟩
        obtain ⟨x8, h8⟩ : ∃ x, sch m (k - 8) = x := ⟨_, rfl⟩
        obtain ⟨x14, h14⟩ : ∃ x, sch m (k - 14) = x := ⟨_, rfl⟩
        obtain ⟨x16, h18⟩ : ∃ x, sch m (k - 16) = x := ⟨_, rfl⟩
        rw [h3] at c3 hx; rw [h8] at c8 hx; rw [h14] at c14 hx; rw [h18] at c16 hx
        have t3 : IntKind.i64.wrap ((k : Int) - 3) = ((k - 3 : Nat) : Int) := by rw [IntKind.wrap_i64]; omega
        have t8 : IntKind.i64.wrap ((k : Int) - 8) = ((k - 8 : Nat) : Int) := by rw [IntKind.wrap_i64]; omega
        have t14 : IntKind.i64.wrap ((k : Int) - 14) = ((k - 14 : Nat) : Int) := by rw [IntKind.wrap_i64]; omega
        have t16 : IntKind.i64.wrap ((k : Int) - 16) = ((k - 16 : Nat) : Int) := by rw [IntKind.wrap_i64]; omega
        have l3 : ((k - 3 : Nat) : Int) < 80 := by omega
        have l8 : ((k - 8 : Nat) : Int) < 80 := by omega
        have l14 : ((k - 14 : Nat) : Int) < 80 := by omega
        have l16 : ((k - 16 : Nat) : Int) < 80 := by omega
        have e3 : k ≠ k - 3 := by omega
        have e8 : k ≠ k - 8 := by omega
        have e14 : k ≠ k - 14 := by omega
        have e16 : k ≠ k - 16 := by omega
        have cw := rot_1 (xor4 x3 x8 x14 x16)
        obtain ⟨y, hy⟩ := Option.isSome_iff_exists.1 (hr.there k (by omega)).1
        have hf := (hr.there k (by omega)).2
        rw [Nat.zero_add] at hy hf
        have HX := Lib.hid hx
        have HR := Lib.hid hr
        have HB := Lib.hid hbr
        clear hx hr hir h16 h80 h3 h8 h14 h18 hbr
        go_wp2_with fail
        have hS : ∀ v : Value, ((wr.setCell ⟨w.heap.size + 1, k, none⟩ v).drew).cell? ⟨w.heap.size + 1, k - 3, none⟩ = some (wU x3) ∧ ((wr.setCell ⟨w.heap.size + 1, k, none⟩ v).drew).cell? ⟨w.heap.size + 1, k - 8, none⟩ = some (wU x8) ∧ ((wr.setCell ⟨w.heap.size + 1, k, none⟩ v).drew).cell? ⟨w.heap.size + 1, k - 14, none⟩ = some (wU x14) ∧ ((wr.setCell ⟨w.heap.size + 1, k, none⟩ v).drew).cell? ⟨w.heap.size + 1, k - 16, none⟩ = some (wU x16) := fun v => ⟨cell_other e3 c3, cell_other e8 c8, cell_other e14 c14, cell_other e16 c16⟩
        go_region_held3 (fun w' => w'.cell? ⟨w.heap.size + 1, k - 3, none⟩ = some (wU x3) ∧ w'.cell? ⟨w.heap.size + 1, k - 8, none⟩ = some (wU x8) ∧ w'.cell? ⟨w.heap.size + 1, k - 14, none⟩ = some (wU x14) ∧ w'.cell? ⟨w.heap.size + 1, k - 16, none⟩ = some (wU x16))
          (first | assumption | go_keep | (exact hS _))
          ((go_at_call 137; refine (cw _).mono ?_; rintro e w2 ⟨rfl, rfl⟩))
        have hr3 := (HR.out.push (by omega) (rotN 1 (xor4 x3 x8 x14 x16)) HX.out).below (Below.refl _ _).drew (by have := HR.out.lt; simpa using this)
        have hb3 := (below_setCells HB.out (w.heap.size + 1) (Nat.le_refl _) [wU (rotN 1 (xor4 x3 x8 x14 x16))] k).drew
        have HR3 := Lib.hid hr3
        have HB3 := Lib.hid hb3
        clear hr3 hb3 hS c3 c8 c14 c16 cw
        go_wp2
        refine ⟨⟨k + 1, by omega, rfl, HR3.out, HB3.out⟩, ?_⟩
        simp [intOf]; omega
    · obtain rfl : k = 80 := by omega
      have hra : wr.rangeAt (w.heap.size + 1) 0 ((List.range 80).map fun i => wU (sch m i)) := fun j v hv => by
        have hj : j < 80 := by
          have := (List.getElem?_eq_some_iff.1 hv).1
          simpa using this
        rw [Nat.zero_add, hr.at_ j hj]
        simp [hj] at hv
        rw [hv]
      have hth : wr.there w.heap.size 0 ((List.range 80).map fun i => wU (sch m i)).toArray.size := fun j hj => by
        have hj' : j < 80 := by simpa using hj
        rw [hbr.cell (p := ⟨w.heap.size, 0 + j, none⟩) (by show w.heap.size < w.heap.size + 1; omega), hbr.frozen (p := ⟨w.heap.size, 0 + j, none⟩) (by show w.heap.size < w.heap.size + 1; omega)]
        exact hA1 j hj'
      have HB := Lib.hid hbr
      obtain ⟨cs, hcs⟩ : ∃ cs, (List.range 80).map (fun i => wU (sch m i)) = cs := ⟨_, rfl⟩
      have hone : cs.toArray.all (·.oneCell') = true := all_oneCell_toArray (fun v hv => by
        rw [← hcs] at hv
        obtain ⟨_, _, rfl⟩ := List.mem_map.1 hv
        rfl)
      have hsz : (Tryd.prog.info? 110).map (·.size) = some cs.length := by rw [← hcs]; simpa using sz110
      rw [hcs] at hra hth
      have HCS := Lib.hid hcs
      have hrr := World.rangeAt_setCells_same wr w.heap.size 0 cs (by simpa using hth)
      have HRR := Lib.hid hrr
      clear hbr hr hir hcs hrr
      go_wp2_with (first
        | (with_reducible refine wpList_load_mid rfl 110 (.tmp 3) rfl (w.heap.size + 1) 0 rfl cs _ hra un110 rfl hsz ?_)
        | (with_reducible refine wpList_store_mid rfl 110 (.tmp 2) (.tmp 40) rfl w.heap.size 0 cs.toArray rfl rfl hth (by simpa using hsz) hone ?_))
      refine ret_arr (t := 2) (ty := 110) (by kernel_rfl) rfl HRR.out un110 rfl hsz rfl ?_
      refine ⟨by rw [← HCS.out]; rfl, ?_⟩
      exact below_setCells (hbw.trans (HB.out.mono (by omega))) _ (Nat.le_refl _) _ _
end Go.Proofs.Tre
