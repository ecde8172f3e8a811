/- trestlehelp.Begins, trestlehelp.Find. -/
import Derived.Test.YtmjnbbbdghajbaaDoorByt
import Derived.Shelf.Strings.Prefix
namespace Go.Proofs.Tre
open Go Go.RowKit Go.Proofs

set_option maxHeartbeats 1000000 in
theorem Begins_any (s p : ByteArray) (w : World) :
    Calls Tryd.prog 66 #[.string s, .string p] w fun e w' => e = .returned (.bool (Lib.hasPrefix s.data.toList p.data.toList)) ∧ w' = w := by
  rw [← Lib.hasPrefix_of_take, ← Lib.size_eq, ← Lib.size_eq]
  go_enter Tryd.func66, Tryd.ntmps66
  go_wp2
  · rename_i h
    go_ret
    refine ⟨?_, rfl⟩
    show Ending.returned (Value.bool ((s.extract 0 p.size).toList == p.toList)) = _
    rw [Lib.extract_toList, Lib.toList_data]
    simp [h]
  · rename_i h
    go_ret
    refine ⟨?_, rfl⟩
    show Ending.returned (Value.bool false) = _
    simp [h]

set_option maxHeartbeats 1000000 in
set_option maxRecDepth 100000 in
theorem Find_any (s t : ByteArray) (f : Nat) (w : World) (hs : s.size ≤ 100000) (ht : t.size ≤ 100000) (ht0 : 0 < t.size) (hf : f ≤ s.size) :
    Calls Tryd.prog 67 #[.string s, .string t, .int .i64 f] w fun e w' => w' = w ∧ ∃ r : Int, e = .returned (.int .i64 r) ∧
      ((r = -1 ∧ ∀ j, f ≤ j → Lib.occAt s.data.toList t.data.toList j = false) ∨ ∃ k : Nat, r = k ∧ f ≤ k ∧ Lib.occAt s.data.toList t.data.toList k = true ∧ ∀ j, f ≤ j → j < k → Lib.occAt s.data.toList t.data.toList j = false) := by
  go_enter Tryd.func67, Tryd.ntmps67
  go_wp2_with fail
  go_loopw [7] (fun i wr => ∃ k : Nat, f ≤ k ∧ k ≤ s.size + 1 ∧ i = .int .i64 k ∧ wr = w ∧ ∀ j, f ≤ j → j < k → Lib.occAt s.data.toList t.data.toList j = false)
    (fun i _ => s.size + 1 - (intOf i).toNat)
  case atStart => exact ⟨f, Nat.le_refl _, by omega, rfl, rfl, fun j h1 h2 => by omega⟩
  case round =>
    obtain ⟨k, hfk, hks, rfl, rfl, hno⟩ := hrel
    by_cases hlt : k + t.size ≤ s.size
    · have h1 : decide ((k : Int) + t.size ≤ s.size) = true := by simp; omega
      have hsl : ∀ W, (Instr.slice 9 (.string s) (some (.int .i64 (k : Int))) (some (.int .i64 ((k : Int) + t.size))) none).run Tryd.prog W = .ok (.string (s.extract k (k + t.size))) W := fun W => by
        have := run_slice_string (P := Tryd.prog) W 9 s .i64 .i64 (k : Int) ((k : Int) + t.size) Tryd.underlying9 (by omega) (by omega) (by omega)
        rw [this]
        congr 3
      have hq : ((s.extract k (k + t.size)).toList == t.toList) = Lib.occAt s.data.toList t.data.toList k := by
        rw [Lib.extract_toList, Lib.toList_data]
        have := Lib.hasPrefix_of_take (s.data.toList.drop k) t.data.toList
        rw [show k + t.size - k = t.data.toList.length from by rw [← Lib.size_eq]; omega]
        unfold Lib.occAt
        unfold Lib.hasPrefix at this
        rw [← this]
        have hd : decide (t.data.toList.length ≤ (s.data.toList.drop k).length) = true := by
          have e1 := Lib.size_eq s
          have e2 := Lib.size_eq t
          simp only [List.length_drop, decide_eq_true_eq]
          omega
        rw [hd, Bool.true_and]
      obtain ⟨x, hx⟩ : ∃ x, s.extract k (k + t.size) = x := ⟨_, rfl⟩
      rw [hx] at hq
      simp only [hx] at hsl
      obtain ⟨b, hb⟩ : ∃ b, Lib.occAt s.data.toList t.data.toList k = b := ⟨_, rfl⟩
      rw [hb] at hq
      have HB := Lib.hid hb
      have HNO := Lib.hid hno
      clear hb hno hx
      cases b with
      | true =>
        go_wp2
        go_ret
        exact ⟨by trivial, _, rfl, .inr ⟨k, rfl, hfk, HB.out, HNO.out⟩⟩
      | false =>
        go_wp2
        go_roundw
        case rel =>
          refine ⟨k + 1, by omega, by omega, by go_num, by first | rfl | trivial, fun j h1 h2 => ?_⟩
          by_cases e : j = k
          · subst e; exact HB.out
          · exact HNO.out j h1 (by omega)
        case measure => simp [intOf]; omega
    · have h1 : decide ((k : Int) + t.size ≤ s.size) = false := by simp; omega
      have HNO := Lib.hid hno
      clear hno
      go_wp2
      go_ret
      refine ⟨by trivial, _, rfl, .inl ⟨rfl, fun j hj => ?_⟩⟩
      by_cases e : j < k
      · exact HNO.out j hj e
      · unfold Lib.occAt
        rw [← Bool.not_eq_true, List.isPrefixOf_iff_prefix]
        intro hp
        have := hp.length_le
        have e1 := Lib.size_eq s
        have e2 := Lib.size_eq t
        simp only [List.length_drop] at this
        omega
end Go.Proofs.Tre
