/- Bytes that the call made, grown by append. -/
import Derived.Test.YtmjnbbbdghajbaaDoorNum
import Derived.Deep.AppendSrc
import Derived.Deep.RegionHeld3
namespace Go.Proofs.Tre
open Go Go.RowKit Go.Proofs

/-- a slice of the call's own, from the block B on, and what may be written of it -/
def Own (B : Nat) (v : Value) (l : List UInt8) (w : World) : Prop :=
  (v = .slice none 0 0 ∧ l = []) ∨
  ∃ g c, v = .slice (some ⟨g, 0, none⟩) l.length c ∧ B ≤ g ∧ g < w.heap.size ∧ l.length ≤ c ∧
    (∀ i (h : i < l.length), w.cell? ⟨g, i, none⟩ = some (.int .u8 (l[i].toNat : Int))) ∧
    ∀ j, j < c → (w.cell? ⟨g, j, none⟩).isSome = true ∧ w.frozen? ⟨g, j, none⟩ = false

theorem Own.below {B : Nat} {v : Value} {l : List UInt8} {w w' : World} (h : Own B v l w) (hb : Below w.heap.size w w') : Own B v l w' := by
  rcases h with h | ⟨g, c, e, h1, h2, h3, h4, h5⟩
  · exact .inl h
  · refine .inr ⟨g, c, e, h1, Nat.lt_of_lt_of_le h2 hb.size, h3, fun i hi => hb.keep h2 (h4 i hi), fun j hj => ?_⟩
    rw [hb.cell (p := ⟨g, j, none⟩) h2, hb.frozen (p := ⟨g, j, none⟩) h2]
    exact h5 j hj

theorem Own.lower {B B' : Nat} {v : Value} {l : List UInt8} {w : World} (h : Own B v l w) (hb : B' ≤ B) : Own B' v l w := by
  rcases h with h | ⟨g, c, e, h1, h2⟩
  · exact .inl h
  · exact .inr ⟨g, c, e, Nat.le_trans hb h1, h2⟩

theorem Own.nil (B : Nat) (w : World) : Own B (.slice none 0 0) [] w := .inl ⟨rfl, rfl⟩

theorem Own.ret {v : Value} {l : List UInt8} {w w' : World} (h : Own w.heap.size v l w') (hb : Below w.heap.size w w') : RetB l w v w' := by
  rcases h with ⟨rfl, rfl⟩ | ⟨g, c, e, h1, h2, h3, h4, h5⟩
  · exact ⟨none, 0, rfl, Nat.le_refl _, fun _ => rfl, InB.nil _ _, hb⟩
  · exact ⟨_, c, e, h3, (fun h => by cases h), fun _ => ⟨g, 0, rfl, h2, fun i hi => by rw [Nat.zero_add]; exact h4 i hi⟩, hb⟩

theorem Own.form {B : Nat} {v : Value} {l : List UInt8} {w : World} (h : Own B v l w) : ∃ p c, v = .slice p l.length c ∧ InB w p l ∧ l.length ≤ c ∧ (p = none → c = 0) := by
  rcases h with ⟨rfl, rfl⟩ | ⟨g, c, e, h1, h2, h3, h4, h5⟩
  · exact ⟨none, 0, rfl, InB.nil _ _, Nat.le_refl _, fun _ => rfl⟩
  · exact ⟨_, c, e, fun _ => ⟨g, 0, rfl, h2, fun i hi => by rw [Nat.zero_add]; exact h4 i hi⟩, h3, fun h => by cases h⟩

/-- []byte(s) -/
theorem bytes_own (w : World) (s : ByteArray) : Own w.heap.size (.slice (some ⟨w.heap.size, 0, none⟩) s.size (grownCap w s.size 0 5)) s.data.toList (Lib.bytesWorld w 5 s) := by
  have hsz : (Lib.bytesCells w 5 s).size = grownCap w s.size 0 5 := by
    have := grownCap_ge w s.size 0 5
    simp only [Lib.bytesCells, Array.size_append, Array.size_map, Array.size_replicate]
    have : s.data.size = s.size := rfl
    omega
  refine .inr ⟨_, _, by rw [Lib.size_eq], Nat.le_refl _, by rw [Lib.bytesWorld_size]; omega, by rw [← Lib.size_eq]; exact grownCap_ge _ _ _ _, fun i hi => ?_, fun j hj => ?_⟩
  · have hi' : i < s.size := by rw [Lib.size_eq]; exact hi
    rw [Lib.bytesWorld_cell w 5 s i hi']
    simp [List.getD, hi']
  · have hj' : j < (Lib.bytesCells w 5 s).size := by rw [hsz]; exact hj
    constructor
    · simp [World.cell?, Lib.bytesWorld_at_new, hj']
    · simp only [World.frozen?, Lib.bytesWorld_at_new, Bool.and_eq_false_iff, decide_eq_false_iff_not]
      left
      rw [hsz]
      have : s.size = s.data.toList.length := Lib.size_eq s
      rw [this]
      omega

theorem src_bytes (w : World) (p : Option Addr) (c : Nat) (m : List UInt8) (h : InB w p m) : Src Tryd.prog 1 30 (.slice p m.length c) m.length (Lib.byteCells m) w := by
  have hb : ∀ u ∈ Lib.byteCells m, u.oneCell' = true := fun u hu => by
    obtain ⟨_, _, rfl⟩ := List.mem_map.1 hu
    rfl
  by_cases hm : 0 < m.length
  · obtain ⟨b, o, rfl, _, hc⟩ := h hm
    refine Src.ofSlice w Tryd.underlying30 _ _ _ _ (by simp [Lib.byteCells]) (fun j u hj => ?_) hb
    rw [Addr.add_lit]
    have hj' : j < m.length := by
      have := (List.getElem?_eq_some_iff.1 hj).1
      simpa [Lib.byteCells] using this
    rw [hc j hj']
    simp [Lib.byteCells, hj'] at hj
    rw [hj]
  · obtain rfl : m = [] := List.eq_nil_of_length_eq_zero (by omega)
    cases p with
    | none => exact Src.ofNil w Tryd.underlying30 c
    | some a => exact Src.ofSlice w Tryd.underlying30 a 0 c [] rfl (fun _ _ h => by simp at h) (fun _ h => by cases h)

theorem info5m : (Tryd.prog.info? 5).map (fun i => (i.size, i.bytes, i.zero)) = some (1, 1, some (.int .u8 0)) := by kernel_rfl
theorem info5 : ∃ i, Tryd.prog.info? 5 = some i ∧ i.size = 1 ∧ i.bytes = 1 ∧ i.zero = some (.int .u8 0) := by
  have h := info5m
  cases hi : Tryd.prog.info? 5 with
  | none => rw [hi] at h; cases h
  | some i =>
    rw [hi] at h
    simp only [Option.map_some, Option.some.injEq, Prod.mk.injEq] at h
    exact ⟨i, rfl, h.1, h.2.1, h.2.2⟩

theorem run_append_own_bytes (w : World) (B : Nat) (v : Value) (l : List UInt8) (ty : TypeId) (ho : Own B v l w) (hBw : B ≤ w.heap.size) (p : Option Addr) (n c : Nat) (m : List UInt8) (hn : n = m.length) (hi : InB w p m) (hl : l.length + n ≤ 1000000) :
    ∃ v' w', (Builtin.append_ #[30, 30] ty #[v, .slice p n c]).run Tryd.prog w = .ok v' w' ∧ Own B v' (l ++ m) w' ∧ Below B w w' := by
  subst hn
  obtain ⟨i5, hi5, hz1, hz2, hz3⟩ := info5
  have hs := src_bytes w p c m hi
  have hblen : ∀ x : List UInt8, (Lib.byteCells x).length = x.length := fun x => by simp [Lib.byteCells]
  obtain ⟨sp, cp, hv, hin, hlc, hno⟩ := ho.form
  by_cases hroom : l.length + m.length ≤ cp
  · rcases ho with ⟨rfl, rfl⟩ | ⟨g, c', e, h1, h2, h3, h4, h5⟩
    · simp only [Value.slice.injEq] at hv
      obtain ⟨_, _, rfl⟩ := hv
      obtain rfl : m = [] := List.eq_nil_of_length_eq_zero (by simpa using hroom)
      refine ⟨.slice none 0 0, w, ?_, Own.nil B w, Below.refl _ _⟩
      have h1 := hs.len w
      have h2 := hs.cells
      simp at h1 h2
      simp [Builtin.append_, run_underlying Tryd.underlying30, sizeOf, typeInfo, hi5, hz1, h1, h2]
    · rw [e] at hv ⊢
      simp only [Value.slice.injEq] at hv
      obtain ⟨rfl, -, rfl⟩ := hv
      have hsome : ∀ j, j < (Lib.byteCells m).length → (w.cell? ⟨g, l.length + j, none⟩).isSome = true := fun j hj => by rw [hblen] at hj; exact (h5 _ (by omega)).1
      have hr := run_append_room_src (P := Tryd.prog) w 30 30 ty 5 _ Tryd.underlying30 hi5 g 0 l.length c' (.slice p m.length c) m.length (Lib.byteCells m) (by rw [hz1]; exact hs) hroom
        (fun j hj => by rw [hz1, Nat.mul_one, Nat.zero_add]; exact hsome j hj) (fun j hj => by rw [hblen] at hj; exact (h5 _ (by rw [hz1]; omega)).2)
      simp only [hz1, Nat.mul_one, Nat.zero_add] at hr
      refine ⟨_, _, hr, .inr ⟨g, c', by rw [List.length_append], h1, by rw [size_setCells]; exact h2, by rw [List.length_append]; exact hroom, fun i hi => ?_, fun j hj => ?_⟩, ?_⟩
      · by_cases hil : i < l.length
        · rw [World.cell?_setCells_out g _ _ _ _ (fun _ _ => .inl hil), h4 i hil, List.getElem_append_left hil]
        · have hi' : i - l.length < m.length := by rw [List.length_append] at hi; omega
          have := World.cell?_setCells_in g (Lib.byteCells m) l.length w hsome (i - l.length) (by rw [hblen]; exact hi')
          rw [show l.length + (i - l.length) = i from by omega] at this
          rw [this, List.getElem_append_right (by omega)]
          simp [Lib.byteCells]
      · rw [World.frozen?_setCells]
        refine ⟨?_, (h5 j hj).2⟩
        by_cases hjr : l.length ≤ j ∧ j < l.length + m.length
        · have := World.cell?_setCells_in g (Lib.byteCells m) l.length w hsome (j - l.length) (by rw [hblen]; omega)
          rw [show l.length + (j - l.length) = j from by omega] at this
          rw [this]; rfl
        · rw [World.cell?_setCells_out g _ _ _ _ (fun _ _ => by rw [hblen]; show j < _ ∨ _ ≤ j; omega)]
          exact (h5 j hj).1
      · exact below_setCells (Below.refl _ _) g h1 _ _
  · have hold : (Builtin.firstCells i5.size l.length (.slice sp l.length cp)).run Tryd.prog w.drew = .ok (Lib.byteCells l).toArray w.drew := by
      rw [hz1]
      exact (src_bytes w sp cp l hin).cellsD
    have hng := nextslicecap_le (need := l.length + m.length) (old := cp) (by omega)
    have hr := run_append_grow_src (P := Tryd.prog) w 30 30 ty 5 _ _ Tryd.underlying30 hi5 hz3 sp l.length cp (Lib.byteCells l) hold (.slice p m.length c) m.length (Lib.byteCells m) (by rw [hz1]; exact hs) (by omega) (by omega) (by rw [hz2]; omega)
    have hge := grownCap_ge w (l.length + m.length) cp 5
    rw [hv]
    have hgc : (((Lib.byteCells l ++ Lib.byteCells m).toArray ++ Builtin.zeroCells (Value.int IntKind.u8 0).cells (grownCap w (l.length + m.length) cp 5 - (l.length + m.length))) : Array Value).size = grownCap w (l.length + m.length) cp 5 := by
      simp [hblen, Builtin.zeroCells, Value.cells]
      omega
    refine ⟨_, _, hr, .inr ⟨w.heap.size, _, by rw [List.length_append], hBw, by simp, by rw [List.length_append]; exact hge, fun i hi => ?_, fun j hj => ?_⟩, ?_⟩
    · rw [World.cell?_alloc_at (w := w.drew) _ _ w.heap.size _ rfl]
      have hi' : i < (Lib.byteCells l ++ Lib.byteCells m).length := by simpa [hblen] using hi
      rw [Array.getElem?_append_left (by simpa using hi')]
      simp only [List.getElem?_toArray]
      rw [← Lib.byteCells_append]
      unfold Lib.byteCells
      rw [List.getElem?_map, List.getElem?_eq_getElem hi]
      rfl
    · constructor
      · rw [World.cell?_alloc_at (w := w.drew) _ _ w.heap.size _ rfl]
        rw [Array.getElem?_eq_getElem (by rw [hgc]; exact hj)]
        rfl
      · exact World.frozen?_alloc_at _ _ _ _ rfl
    · exact ((Below.refl _ _).drew.alloc hBw _)

/-- at the list of a plain region's operations -/
theorem wpList_append_B (w : World) {ops : Array Oper} {rest : List Oper} {o : Oper} {a : Act} {Q : Exit → Act → World → Prop} (hgd : o.guard = none) (s x : Operand)
    (hop : o.op = Op.call { callee := Callee.builtin Builtin.append, args := #[s, x], argTypes := #[30, 30] }) (B : Nat) (v : Value) (l : List UInt8) (hs : a.eval s = v) (ho : Own B v l w) (hBw : B ≤ w.heap.size)
    (p : Option Addr) (n c : Nat) (m : List UInt8) (hx : a.eval x = .slice p n c) (hn : n = m.length) (hi : InB w p m) (hl : l.length + n ≤ 1000000)
    (hK : ∀ v' w', Own B v' (l ++ m) w' → Below B w w' → wpList Tryd.prog ops Q rest (a.put o.dst v') w') : wpList Tryd.prog ops Q (o :: rest) a w := by
  refine wpList_plain hgd fun K hK' => ?_
  obtain ⟨v', w', hrun, r1, r2⟩ := run_append_own_bytes w B v l o.type ho hBw p n c m hn hi hl
  unfold Oper.wp
  simp [execOp, hop, resolve, invoke, builtin, hs, hx, hrun, Result.andThen]
  exact hK' _ _ (hK v' w' r1 r2)

/-- at a step of a region that draws its order -/
theorem step_append_B (w : World) {ops : Array Oper} {o : Oper} {a : Act} {K : Act → World → Prop} {Q : Exit → Act → World → Prop} {E : Prop} (hgd : o.guard = none) (s x : Operand)
    (hop : o.op = Op.call { callee := Callee.builtin Builtin.append, args := #[s, x], argTypes := #[30, 30] }) (B : Nat) (v : Value) (l : List UInt8) (hs : a.eval s = v) (ho : Own B v l w) (hBw : B ≤ w.heap.size)
    (p : Option Addr) (n c : Nat) (m : List UInt8) (hx : a.eval x = .slice p n c) (hn : n = m.length) (hi : InB w p m) (hl : l.length + n ≤ 1000000)
    (hK : ∀ v' w', Own B v' (l ++ m) w' → Below B w w' → K (a.put o.dst v') w') : if Region.wanted o (yielded ops a.tmps) = true then Oper.wp Tryd.prog o a w K Q else E := by
  have hw : Region.wanted o (yielded ops a.tmps) = true := by simp [Region.wanted, hgd]
  rw [if_pos hw]
  obtain ⟨v', w', hrun, r1, r2⟩ := run_append_own_bytes w B v l o.type ho hBw p n c m hn hi hl
  unfold Oper.wp execOp
  simp only [hop, resolve, invoke, builtin, Sem.run_bind, Sem.run_pure, Result.andThen_ok, List.map_toArray, List.map_cons, List.map_nil, hs, hx, hrun]
  exact hK v' w' r1 r2
end Go.Proofs.Tre
