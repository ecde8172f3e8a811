/- trestlelaw09.CommitParents: what its record and its parents are in memory. -/
import Derived.Test.YtmjnbbbdghajbaaDoorLawCP
namespace Go.Proofs.Tre
open Go Go.RowKit Go.Proofs

/-- the j-th parent: j+1 and zeros -/
def idx (j : Nat) : ID := ⟨UInt8.ofNat (j + 1) :: List.replicate 19 0, rfl⟩
def parK (k : Nat) : List ID := (List.range k).map idx
theorem parK_length (k : Nat) : (parK k).length = k := by simp [parK]
theorem parK_succ (k : Nat) : parK (k + 1) = parK k ++ [idx k] := by simp [parK, List.range_succ]
def parCells (l : List ID) : List Value := l.flatMap ID.cells
theorem parCells_get : ∀ (l : List ID) (j : Nat) (hj : j < l.length) (i : Nat), i < 20 → (parCells l)[j * 20 + i]? = l[j].cells[i]?
  | x :: l, 0, _, i, hi => by
    simp only [parCells, List.flatMap_cons, Nat.zero_mul, Nat.zero_add, List.getElem_cons_zero]
    exact List.getElem?_append_left (by rw [ID.cells_length]; exact hi)
  | x :: l, j + 1, hj, i, hi => by
    simp only [parCells, List.flatMap_cons, List.getElem_cons_succ]
    rw [List.getElem?_append_right (by rw [ID.cells_length]; omega), ID.cells_length, show (j + 1) * 20 + i - 20 = j * 20 + i from by omega]
    exact parCells_get l j (by simpa using hj) i hi

/-- the record lies in its block, its parents in theirs -/
def LawSt (w0 : World) (ps : List ID) (w : World) : Prop := ∃ pa c, w.heap[w0.heap.size + 1]? = some (.cells (recCells (.slice pa ps.length c) ⟨#[]⟩) 29 (0, 0)) ∧ ps.length ≤ c ∧
  (0 < ps.length → ∃ g, pa = some ⟨g, 0, none⟩ ∧ w0.heap.size + 2 ≤ g ∧ g < w.heap.size ∧ w.there g 0 (ps.length * 20) ∧ IdsAt w g 0 ps) ∧ Below w0.heap.size w0 w

theorem lawSt_row {w0 w : World} {ps : List ID} {v : Value} {k : Nat} (hk : k = ps.length) (hr : w.heap[w0.heap.size + 1]? = some (.cells (recCells v ⟨#[]⟩) 29 (0, 0)))
    (ho : w.ownsRow (w0.heap.size + 2) 26 20 v k (parCells ps)) (hb : Below w0.heap.size w0 w) : LawSt w0 ps w := by
  subst hk
  obtain ⟨h1, h2⟩ := ho
  rcases h2 with ⟨rfl, h0⟩ | ⟨g, cap, cur, rfl, hg, hh, hn, hm, hs, ht⟩
  · exact ⟨none, 0, by rw [h0]; exact hr, by omega, fun h => by omega, hb⟩
  · refine ⟨_, cap, hr, hn, fun _ => ⟨g, rfl, hg, ?_, ?_, ?_⟩, hb⟩
    · rcases Nat.lt_or_ge g w.heap.size with h' | h'
      · exact h'
      · rw [Array.getElem?_eq_none h'] at hh; cases hh
    · intro j hj
      refine ⟨?_, frozen_of_row w _ _ _ _ hh⟩
      rw [cell_of_row w _ _ _ _ _ hh, Array.getElem?_eq_getElem (by rw [hs]; have := Nat.mul_le_mul_right 20 hn; omega)]
      rfl
    · intro j hj i u hu
      have hi : i < 20 := by
        have := (List.getElem?_eq_some_iff.1 hu).1
        rwa [ID.cells_length] at this
      rw [cell_of_row w _ _ _ _ _ hh, ← hu, ← parCells_get ps j hj i hi, ← ht, List.getElem?_take, if_pos (by have := Nat.mul_le_mul_right 20 (show j + 1 ≤ ps.length from hj); omega)]
      simp

/-- behind a store of an id into the row of parents -/
theorem LawSt.store {w0 w : World} {ps : List ID} (h : LawSt w0 ps w) {pa : Option Addr} {c : Nat} (hr : w.heap[w0.heap.size + 1]? = some (.cells (recCells (.slice pa ps.length c) ⟨#[]⟩) 29 (0, 0)))
    (j : Nat) (hj : j < ps.length) (x : ID) : ∃ g, pa = some ⟨g, 0, none⟩ ∧ w.there g (j * 20) 20 ∧ IdsAt w g 0 ps ∧ LawSt w0 (ps.set j x) (w.setCells g (j * 20) x.cells) := by
  obtain ⟨pa', c', hr', hc, hin, hb⟩ := h
  rw [hr] at hr'
  simp only [Option.some.injEq, Obj.cells.injEq, Array.mk.injEq, List.cons.injEq, Value.slice.injEq, true_and, and_true] at hr'
  obtain ⟨rfl, rfl⟩ := hr'
  obtain ⟨g, rfl, hg, hlt, hth, hid⟩ := hin (by omega)
  have hth' : w.there g (j * 20) 20 := fun i hi => by
    have := hth (j * 20 + i) (by have := Nat.mul_le_mul_right 20 (show j + 1 ≤ ps.length from hj); omega)
    rwa [Nat.zero_add] at this
  refine ⟨g, rfl, hth', hid, _, c, ?_, by simpa using hc, fun _ => ⟨g, rfl, hg, by rw [size_setCells]; exact hlt, ?_, ?_⟩, below_setCells hb g (by omega) _ _⟩
  · rw [heap_setCells_other _ _ _ (by omega), List.length_set]; exact hr
  · rw [List.length_set]; exact World.there_setCells hth _ _ _
  · intro i hi
    rw [List.length_set] at hi
    by_cases e : i = j
    · subst e
      rw [List.getElem_set_self, Nat.zero_add]
      exact World.rangeAt_setCells_same w g (i * 20) x.cells (by rw [ID.cells_length]; exact hth')
    · rw [List.getElem_set_ne (Ne.symm e)]
      have := hid i hi
      refine World.rangeAt_setCells_apart this g (j * 20) x.cells (Or.inr ?_)
      simp only [ID.cells_length]
      omega

theorem LawSt.drew {w0 w : World} {ps : List ID} (h : LawSt w0 ps w) : LawSt w0 ps w.drew := by
  obtain ⟨pa, c, hr, hc, hin, hb⟩ := h
  refine ⟨pa, c, hr, hc, fun hp => ?_, hb.drew⟩
  obtain ⟨g, e, h1, h2, h3, h4⟩ := hin hp
  exact ⟨g, e, h1, h2, by simpa using h3, fun j hj => (h4 j hj).drewN 1⟩

theorem LawSt.idsIn {w0 w : World} {ps : List ID} (h : LawSt w0 ps w) : ∃ pa c, w.heap[w0.heap.size + 1]? = some (.cells (recCells (.slice pa ps.length c) ⟨#[]⟩) 29 (0, 0)) ∧ ps.length ≤ c ∧ IdsIn w pa ps ∧ Below w0.heap.size w0 w := by
  obtain ⟨pa, c, h1, h2, h3, h4⟩ := h
  refine ⟨pa, c, h1, h2, fun hp => ?_, h4⟩
  obtain ⟨g, e, _, hlt, _, hid⟩ := h3 hp
  exact ⟨g, 0, e, hlt, hid⟩

/-- the parents, when all is done -/
def ps1 (m : Nat) (zero : Bool) : List ID := if zero = true ∧ 0 < m then (parK m).set (m - 1) ID.zero else parK m
def ps2 (m : Nat) (zero twice : Bool) : List ID := if twice = true ∧ 1 < m then (ps1 m zero).set 0 ((ps1 m zero).getD 1 ID.zero) else ps1 m zero
def want1 (m : Nat) (zero : Bool) : Bool := decide (m ≤ 16) && !(zero && decide (0 < m))
def want2 (m : Nat) (zero twice : Bool) : Bool := want1 m zero && !(twice && decide (1 < m))

theorem ps1_length (m : Nat) (zero : Bool) : (ps1 m zero).length = m := by
  unfold ps1; split <;> simp [parK_length]
theorem ps2_length (m : Nat) (zero twice : Bool) : (ps2 m zero twice).length = m := by
  unfold ps2; split <;> simp [ps1_length]

theorem want1_hit (m : Nat) (zero : Bool) (h : (zero && decide (0 < m)) = true) : want1 m zero = false ∧ ps1 m zero = (parK m).set (m - 1) ID.zero := by
  simp only [Bool.and_eq_true, decide_eq_true_eq] at h
  exact ⟨by simp [want1, h.1, h.2], by unfold ps1; rw [if_pos h]⟩
theorem want1_miss (m : Nat) (zero : Bool) (h : (zero && decide (0 < m)) = false) : want1 m zero = decide (m ≤ 16) ∧ ps1 m zero = parK m := by
  refine ⟨by simp [want1, h], by unfold ps1; rw [if_neg]; simpa using h⟩
theorem want2_hit (m : Nat) (zero twice : Bool) (h : (twice && decide (1 < m)) = true) : want2 m zero twice = false ∧ ps2 m zero twice = (ps1 m zero).set 0 ((ps1 m zero).getD 1 ID.zero) := by
  simp only [Bool.and_eq_true, decide_eq_true_eq] at h
  exact ⟨by simp [want2, h.1, h.2], by unfold ps2; rw [if_pos h]⟩
theorem want2_miss (m : Nat) (zero twice : Bool) (h : (twice && decide (1 < m)) = false) : want2 m zero twice = want1 m zero ∧ ps2 m zero twice = ps1 m zero := by
  refine ⟨by simp [want2, h], by unfold ps2; rw [if_neg]; simpa using h⟩

/-- what RB reckons -/
def okB (ps : List ID) : Bool := ((List.range ps.length).all fun j => decide (ps.getD j ID.zero ≠ ID.zero) && !((ps.take j).any fun y => decide (ps.getD j ID.zero = y))) && decide (ps.length ≤ 16)
open Classical in
theorem RB_iff (ps : List ID) : RB ps = true ↔ FineTo ps ps.length ∧ ps.length ≤ 16 := by unfold RB; exact decide_eq_true_iff
theorem RB_okB (ps : List ID) : RB ps = okB ps := by
  rw [Bool.eq_iff_iff, RB_iff]
  unfold okB
  simp only [decide_eq_true_eq, Bool.and_eq_true, List.all_eq_true, List.mem_range, Bool.not_eq_true', FineTo]
  constructor
  · rintro ⟨h1, h2⟩
    refine ⟨fun j hj => ?_, h2⟩
    rw [show ps.getD j ID.zero = ps[j] from by simp [List.getD, hj]]
    exact h1 j hj hj
  · rintro ⟨h1, h2⟩
    refine ⟨fun j hj _ => ?_, h2⟩
    have := h1 j hj
    rw [show ps.getD j ID.zero = ps[j] from by simp [List.getD, hj]] at this
    exact this
theorem okB_all : ∀ (m : Fin 19) (z t : Bool), okB (ps2 m z t) = want2 m z t := by decide +kernel
theorem RB_want (m : Nat) (h : m ≤ 18) (z t : Bool) : RB (ps2 m z t) = want2 m z t := by
  rw [RB_okB]; exact okB_all ⟨m, by omega⟩ z t
end Go.Proofs.Tre
