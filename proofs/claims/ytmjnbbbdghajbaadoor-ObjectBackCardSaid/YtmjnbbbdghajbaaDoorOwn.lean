/- trestlehelp.Own[byte], Kept[byte], Plain[byte], Object. -/
import Derived.Test.YtmjnbbbdghajbaaDoorObjR
import Derived.Laws.MakeOwn
namespace Go.Proofs.Tre
open Go Go.RowKit Go.Proofs

/-- bytes at the head of a block of their own, and what may be written of it -/
structure Row (g c : Nat) (l : List UInt8) (w : World) : Prop where
  lt : g < w.heap.size
  le : l.length ≤ c
  at_ : ∀ i (h : i < l.length), w.cell? ⟨g, i, none⟩ = some (.int .u8 (l[i].toNat : Int))
  there : ∀ j, j < c → (w.cell? ⟨g, j, none⟩).isSome = true
  free : ∀ j, j < c → w.frozen? ⟨g, j, none⟩ = false

theorem Row.below {g c B : Nat} {l : List UInt8} {w w' : World} (h : Row g c l w) (hb : Below B w w') (hg : g < B) : Row g c l w' :=
  ⟨Nat.lt_of_lt_of_le h.lt hb.size, h.le, fun i hi => hb.keep hg (h.at_ i hi), fun j hj => by rw [hb.cell (p := ⟨g, j, none⟩) hg]; exact h.there j hj, fun j hj => by rw [hb.frozen (p := ⟨g, j, none⟩) hg]; exact h.free j hj⟩

theorem Row.inB {g c : Nat} {l : List UInt8} {w : World} (h : Row g c l w) : InB w (some ⟨g, 0, none⟩) l := fun _ => ⟨g, 0, rfl, h.lt, fun i hi => by rw [Nat.zero_add]; exact h.at_ i hi⟩

theorem Row.head {g c : Nat} {l m : List UInt8} {w : World} (h : Row g c (l ++ m) w) : Row g c l w :=
  ⟨h.lt, by have := h.le; simp at this; omega, fun i hi => by rw [h.at_ i (by simp; omega), List.getElem_append_left hi], h.there, h.free⟩

theorem Row.set {g c : Nat} {l m : List UInt8} {w : World} (h : Row g c l w) (hm : l.length + m.length ≤ c) : Row g c (l ++ m) (w.setCells g l.length (Lib.byteCells m)) := by
  have hblen : ∀ x : List UInt8, (Lib.byteCells x).length = x.length := fun x => by simp [Lib.byteCells]
  have hsome : ∀ j, j < (Lib.byteCells m).length → (w.cell? ⟨g, l.length + j, none⟩).isSome = true := fun j hj => by rw [hblen] at hj; exact h.there _ (by omega)
  refine ⟨by rw [size_setCells]; exact h.lt, by rw [List.length_append]; exact hm, fun i hi => ?_, fun j hj => ?_, fun j hj => ?_⟩
  · by_cases hil : i < l.length
    · rw [World.cell?_setCells_out g _ _ _ _ (fun _ _ => .inl hil), h.at_ i hil, List.getElem_append_left hil]
    · have hi' : i - l.length < m.length := by rw [List.length_append] at hi; omega
      have := World.cell?_setCells_in g (Lib.byteCells m) l.length w hsome (i - l.length) (by rw [hblen]; exact hi')
      rw [show l.length + (i - l.length) = i from by omega] at this
      rw [this, List.getElem_append_right (by omega)]
      simp [Lib.byteCells]
  · by_cases hjr : l.length ≤ j ∧ j < l.length + m.length
    · have := World.cell?_setCells_in g (Lib.byteCells m) l.length w hsome (j - l.length) (by rw [hblen]; omega)
      rw [show l.length + (j - l.length) = j from by omega] at this
      rw [this]; rfl
    · rw [World.cell?_setCells_out g _ _ _ _ (fun _ _ => by rw [hblen]; show j < _ ∨ _ ≤ j; omega)]
      exact h.there j hj
  · rw [World.frozen?_setCells]; exact h.free j hj

theorem run_append_row (w : World) (g c : Nat) (l : List UInt8) (ty : TypeId) (h : Row g c l w) (p : Option Addr) (d : Nat) (m : List UInt8) (hi : InB w p m) (hm : l.length + m.length ≤ c) :
    (Builtin.append_ #[30, 30] ty #[.slice (some ⟨g, 0, none⟩) l.length c, .slice p m.length d]).run Tryd.prog w = .ok (.slice (some ⟨g, 0, none⟩) (l.length + m.length) c) (w.setCells g l.length (Lib.byteCells m)) := by
  obtain ⟨i5, hi5, hz1, hz2, hz3⟩ := info5
  have hs := src_bytes w p d m hi
  have hblen : ∀ x : List UInt8, (Lib.byteCells x).length = x.length := fun x => by simp [Lib.byteCells]
  have hr := run_append_room_src (P := Tryd.prog) w 30 30 ty 5 _ Tryd.underlying30 hi5 g 0 l.length c (.slice p m.length d) m.length (Lib.byteCells m) (by rw [hz1]; exact hs) hm
    (fun j hj => by rw [hz1, Nat.mul_one, Nat.zero_add]; rw [hblen] at hj; exact h.there _ (by omega)) (fun j hj => by rw [hblen] at hj; exact h.free _ (by rw [hz1]; omega))
  simp only [hz1, Nat.mul_one, Nat.zero_add] at hr
  exact hr

theorem wpList_append_row (w : World) {ops : Array Oper} {rest : List Oper} {o : Oper} {a : Act} {Q : Exit → Act → World → Prop} (hgd : o.guard = none) (s x : Operand)
    (hop : o.op = Op.call { callee := Callee.builtin Builtin.append, args := #[s, x], argTypes := #[30, 30] }) (g c : Nat) (l : List UInt8) (hs : a.eval s = .slice (some ⟨g, 0, none⟩) l.length c) (h : Row g c l w)
    (p : Option Addr) (d : Nat) (m : List UInt8) (hx : a.eval x = .slice p m.length d) (hi : InB w p m) (hm : l.length + m.length ≤ c)
    (hK : ∀ w', Row g c (l ++ m) w' → Below g w w' → wpList Tryd.prog ops Q rest (a.put o.dst (.slice (some ⟨g, 0, none⟩) (l.length + m.length) c)) w') : wpList Tryd.prog ops Q (o :: rest) a w := by
  refine wpList_plain hgd fun K hK' => ?_
  have hrun := run_append_row w g c l o.type h p d m hi hm
  unfold Oper.wp
  simp [execOp, hop, resolve, invoke, builtin, hs, hx, hrun, Result.andThen]
  exact hK' _ _ (hK _ (h.set hm) (below_setCells (Below.refl _ _) g (Nat.le_refl _) _ _))

/-- a copy with three bytes of room behind it, filled -/
def RetS (l : List UInt8) (w : World) (v : Value) (w' : World) : Prop := ∃ g, v = .slice (some ⟨g, 0, none⟩) l.length (l.length + 3) ∧ w.heap.size ≤ g ∧ Row g (l.length + 3) (l ++ [71, 71, 71]) w' ∧ Below w.heap.size w w'

theorem make_bytes (n : Nat) (hn : n ≤ 100000) : ∃ cs : Array Value, cs.size = n ∧ ∀ W : World, (Instr.makeSlice 30 (.int .i64 0) (.int .i64 (n : Int))).run Tryd.prog W = .ok (.slice (some ⟨W.heap.size, 0, none⟩) 0 n) (W.alloc (.cells cs 5)) := by
  obtain ⟨i5, hi5, hz1, hz2, hz3⟩ := info5
  refine ⟨madeCells (Value.int .u8 0).cells (n * i5.size), ?_, fun W => ?_⟩
  · rw [hz1]; simp [madeCells]
  · have := run_make (P := Tryd.prog) W 30 5 i5 (.int .u8 0) Tryd.underlying30 hi5 hz3 .i64 .i64 0 (n : Int) (Int.le_refl _) (by omega) (by rw [hz2]; omega) (by omega)
    rw [this]
    simp

theorem slice_to (W : World) (g n c k : Nat) (hk : k ≤ c) (hc : 0 < c) : (Instr.slice 30 (.slice (some ⟨g, 0, none⟩) n c) none (some (.int .i64 (k : Int))) none).run Tryd.prog W = .ok (.slice (some ⟨g, 0, none⟩) k c) W := by
  have h30 : Tryd.prog.elem 30 = 5 := by kernel_rfl
  have := run_slice_h (P := Tryd.prog) W 30 (some ⟨g, 0, none⟩) n c (by rw [h30]; exact Tryd.underlying30) .i64 (k : Int) (by omega) (by omega)
  rw [this, h30]
  obtain ⟨i5, hi5, hz1, _, _⟩ := info5
  have : c ≠ 0 := by omega
  simp [sizeOf, typeInfo, hi5, hz1, sliced, Addr.add_lit]

set_option maxHeartbeats 1000000 in
set_option maxRecDepth 100000 in
theorem Own_any (w : World) (p : Option Addr) (c : Nat) (l : List UInt8) (hi : InB w p l) (hl : l.length ≤ 10000) :
    Calls Tryd.prog 16 #[.slice p l.length c, .int .u8 71] w fun e w' => ∃ v, e = .returned v ∧ RetS l w v w' := by
  obtain ⟨cs, hcs, hmk⟩ := make_bytes (l.length + 3) (by omega)
  have hb0 : Below w.heap.size w (w.alloc (.cells cs 5)) := (Below.refl _ _).alloc (Nat.le_refl _) _
  have hr0 : Row w.heap.size (l.length + 3) [] (w.alloc (.cells cs 5)) := ⟨by simp, by simp, fun i hi => by simp at hi, fun j hj => by
    rw [World.cell?_alloc_at _ _ _ _ rfl, Array.getElem?_eq_getElem (by omega)]; rfl, fun j _ => World.frozen?_alloc_at _ _ _ _ rfl⟩
  have hi0 := hi.below hb0
  have hsl := fun W => slice_to W w.heap.size l.length (l.length + 3) (l.length + 3) (Nat.le_refl _) (by omega)
  have hmk' : ∀ W : World, (Instr.makeSlice 30 (.int .i64 0) (.int .i64 ((l.length : Int) + 3))).run Tryd.prog W = .ok (.slice (some ⟨W.heap.size, 0, none⟩) 0 (l.length + 3)) (W.alloc (.cells cs 5)) := hmk
  have hsl' : ∀ W : World, (Instr.slice 30 (.slice (some ⟨w.heap.size, 0, none⟩) l.length (l.length + 3)) none (some (.int .i64 ((l.length : Int) + 3))) none).run Tryd.prog W = .ok (.slice (some ⟨w.heap.size, 0, none⟩) (l.length + 3) (l.length + 3)) W := hsl
  clear hmk hsl
  go_enter Tryd.func16, Tryd.ntmps16
  go_wp2_with (at_builtin; refine wpList_append_row _ rfl (.tmp 12) (.tmp 13) rfl w.heap.size (l.length + 3) [] rfl hr0 p c l rfl hi0 (by simp) ?_; intro w1 hr1 hb1)
  simp only [List.nil_append] at hr1
  go_wp2_with fail
  go_loopw [7] (fun i wr => ∃ q k : Nat, k ≤ 3 ∧ q = l.length + k ∧ i = .int .i64 (q : Int) ∧ Row w.heap.size (l.length + 3) (l ++ List.replicate k 71) wr ∧ Below w.heap.size w wr)
    (fun i _ => l.length + 3 - (intOf i).toNat)
  case atStart => exact ⟨l.length, 0, by omega, rfl, rfl, by simpa using hr1, hb0.trans hb1⟩
  case round =>
    obtain ⟨q, k, hk, hq, rfl, hr, hbr⟩ := hrel
    clear hr0 hr1 hmk' hb0 hb1 hi0
    by_cases hlt : k < 3
    · have hd : decide (q < l.length + 3) = true := by simp; omega
      have hq3 : q < l.length + 3 := by omega
      have hlen : (l ++ List.replicate k 71).length = q := by simp [hq]
      have hc := hr.there q hq3
      obtain ⟨x, hx⟩ := Option.isSome_iff_exists.1 hc
      have hf := hr.free q hq3
      have hr2 := hr.set (m := [71]) (by simp; omega)
      rw [hlen] at hr2
      have hb2 := below_setCells hbr w.heap.size (Nat.le_refl _) (Lib.byteCells [71]) q
      have HR2 := Lib.hid hr2
      have HB2 := Lib.hid hb2
      have HQ := Lib.hid hq
      clear hr hc hlen hr2 hb2 hbr hq
      go_wp2
      go_roundw
      case rel =>
        refine ⟨q + 1, k + 1, by omega, by rw [HQ.out]; omega, by go_num, ?_, HB2.out⟩
        have := HR2.out
        rw [List.append_assoc, show List.replicate k (71 : UInt8) ++ [71] = List.replicate (k + 1) 71 from by rw [List.replicate_succ']] at this
        exact this
      case measure => simp [intOf]; omega
    · obtain rfl : k = 3 := by omega
      subst hq
      go_wp2
      go_ret
      exact ⟨_, rfl, w.heap.size, rfl, Nat.le_refl _, hr, hbr⟩

theorem eq107 (x : Int) (w : World) : Calls Tryd.prog 107 #[.int .u8 x, .int .u8 x] w fun e w' => e = .returned (.bool true) ∧ w' = w := by
  go_enter Tryd.func107, Tryd.ntmps107
  go_wp2
  go_ret
  exact ⟨by simp, rfl⟩

set_option maxHeartbeats 1000000 in
set_option maxRecDepth 100000 in
theorem Same_true (w : World) (p q : Option Addr) (c d : Nat) (l : List UInt8) (hp : InB w p l) (hq : InB w q l) (hl : l.length ≤ 100000) :
    Calls Tryd.prog 106 #[.slice p l.length c, .slice q l.length d, .func (.func 107) #[] #[]] w fun e w' => e = .returned (.bool true) ∧ Below w.heap.size w w' := by
  go_enter Tryd.func106, Tryd.ntmps106
  go_wp2_with fail
  go_loopw [7] (fun i wr => ∃ k : Nat, k ≤ l.length ∧ i = .int .i64 (k : Int) ∧ Below w.heap.size w wr)
    (fun i _ => l.length - (intOf i).toNat)
  case atStart => exact ⟨0, by omega, rfl, Below.refl _ _⟩
  case round =>
    obtain ⟨k, hk, rfl, hbr⟩ := hrel
    by_cases hlt : k < l.length
    · obtain ⟨b1, o1, rfl, hb1, hc1⟩ := hp (by omega)
      obtain ⟨b2, o2, rfl, hb2, hc2⟩ := hq (by omega)
      have k1 := hbr.keep hb1 (hc1 k hlt)
      have k2 := hbr.keep hb2 (hc2 k hlt)
      obtain ⟨x, hx⟩ : ∃ x : Int, (l[k].toNat : Int) = x := ⟨_, rfl⟩
      rw [hx] at k1 k2
      clear hc1 hc2 hp hq hx
      go_wp2_with fail
      go_region_with (go_at_call 107; refine (eq107 _ _).mono ?_; rintro e w1 ⟨rfl, rfl⟩)
      all_goals
        go_wp2_with fail
        go_roundw
        case rel => exact ⟨k + 1, by omega, by go_num, hbr.drew⟩
        case measure => simp [intOf]; omega
    · obtain rfl : k = l.length := by omega
      go_wp2
      go_ret
      exact ⟨rfl, hbr⟩

theorem Plain_true (w : World) (p q : Option Addr) (c d : Nat) (l : List UInt8) (hp : InB w p l) (hq : InB w q l) (hl : l.length ≤ 100000) :
    Calls Tryd.prog 71 #[.slice p l.length c, .slice q l.length d] w fun e w' => e = .returned (.bool true) ∧ Below w.heap.size w w' := by
  go_enter Tryd.func71, Tryd.ntmps71
  go_wp2_with fail
  refine (Same_true w p q c d l hp hq hl).mono ?_
  rintro e w1 ⟨rfl, hb⟩
  go_wp2
  go_ret
  exact ⟨rfl, hb⟩

set_option maxHeartbeats 1000000 in
set_option maxRecDepth 100000 in
theorem Kept_true (w : World) (g : Nat) (q : Option Addr) (d : Nat) (l : List UInt8) (hr : Row g (l.length + 3) (l ++ [71, 71, 71]) w) (hq : InB w q l) (hl : l.length ≤ 10000) :
    Calls Tryd.prog 27 #[.slice (some ⟨g, 0, none⟩) l.length (l.length + 3), .slice q l.length d, .int .u8 71] w fun e w' => e = .returned (.bool true) ∧ Below w.heap.size w w' := by
  have cp := Plain_true w _ q (l.length + 3) d l hr.head.inB hq (by omega)
  have hsl : ∀ W : World, (Instr.slice 30 (.slice (some ⟨g, 0, none⟩) l.length (l.length + 3)) none (some (.int .i64 ((l.length : Int) + 3))) none).run Tryd.prog W = .ok (.slice (some ⟨g, 0, none⟩) (l.length + 3) (l.length + 3)) W :=
    fun W => slice_to W g l.length (l.length + 3) (l.length + 3) (Nat.le_refl _) (by omega)
  go_enter Tryd.func27, Tryd.ntmps27
  go_wp2_with fail
  refine cp.mono ?_
  rintro e w1 ⟨rfl, hb⟩
  have hd0 : decide (((l.length + 3 : Nat) : Int) < (l.length : Int) + 3) = false := by simp
  have hr1 := hr.below hb hr.lt
  clear cp hq hr
  go_wp2_with fail
  go_loopw [8] (fun i wr => ∃ k : Nat, k ≤ 3 ∧ i = .int .i64 ((l.length + k : Nat) : Int) ∧ wr = w1)
    (fun i _ => l.length + 3 - (intOf i).toNat)
  case atStart => exact ⟨0, by omega, rfl, rfl⟩
  case round =>
    obtain ⟨k, hk, rfl, rfl⟩ := hrel
    by_cases hlt : k < 3
    · have hlen : (l ++ [71, 71, 71]).length = l.length + 3 := by simp
      have hc := hr1.at_ (l.length + k) (by omega)
      rw [show (l ++ [71, 71, 71])[l.length + k]'(by omega) = (71 : UInt8) from by
        rw [List.getElem_append_right (by omega)]
        obtain rfl | rfl | rfl : k = 0 ∨ k = 1 ∨ k = 2 := by omega
        all_goals simp] at hc
      have hc' : wr.cell? ⟨g, l.length + k, none⟩ = some (.int .u8 71) := hc
      clear hc hlen hr1
      obtain ⟨q', hq'⟩ : ∃ q', l.length + k = q' := ⟨_, rfl⟩
      have hq3 : q' < l.length + 3 := by omega
      have hd : decide (q' < l.length + 3) = true := by simpa using hq3
      rw [hq'] at hc' ⊢
      have HQ := Lib.hid hq'
      clear hq'
      go_wp2
      go_roundw
      case rel => exact ⟨k + 1, by omega, by rw [← Nat.add_assoc, HQ.out]; go_num, by first | rfl | trivial⟩
      case measure => simp [intOf]; omega
    · obtain rfl : k = 3 := by omega
      go_wp2
      go_ret
      exact ⟨rfl, hb⟩

set_option maxHeartbeats 1000000 in
set_option maxRecDepth 100000 in
/-- trestlehelp.Object -/
theorem Object_any (w : World) (k1 k2 : Int) (p q : Option Addr) (c d : Nat) (a b : List UInt8) (ha : InB w p a) (hb : InB w q b) :
    Calls Tryd.prog 24 #[.agg #[.int .i64 k1, .slice p a.length c], .agg #[.int .i64 k2, .slice q b.length d]] w fun e w' => e = .returned (.bool (k1 == k2 && a == b)) ∧ Below w.heap.size w w' := by
  have hb0 : Below w.heap.size w ((w.alloc (.cells #[.int .i64 k1, .slice p a.length c] 38)).alloc (.cells #[.int .i64 k2, .slice q b.length d] 38)) := ((Below.refl _ _).alloc (Nat.le_refl _) _).alloc (by simp) _
  have cb := Bytes_any _ p q a.length b.length c d a b rfl rfl (ha.below hb0) (hb.below hb0)
  obtain ⟨x, hx⟩ : ∃ x, (a == b) = x := ⟨_, rfl⟩
  rw [hx] at cb ⊢
  clear hx
  by_cases hk : k1 = k2
  · subst hk
    go_enter Tryd.func24, Tryd.ntmps24
    go_wp2_with fail
    refine cb.mono ?_
    rintro e w1 ⟨rfl, rfl⟩
    go_wp2
    go_ret
    exact ⟨by simp, hb0⟩
  · have hk' : (k1 == k2) = false := by simpa using hk
    rw [hk', Bool.false_and]
    clear hk cb
    go_enter Tryd.func24, Tryd.ntmps24
    go_wp2
    go_ret
    exact ⟨rfl, hb0⟩
end Go.Proofs.Tre
