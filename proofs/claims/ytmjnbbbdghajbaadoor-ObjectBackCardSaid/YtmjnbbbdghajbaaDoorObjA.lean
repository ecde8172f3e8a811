/- trestlelaw07.awake. -/
import Derived.Test.YtmjnbbbdghajbaaDoorObjI
import Derived.Lib.SmallJoins
namespace Go.Proofs.Tre
open Go Go.RowKit Go.Proofs

theorem hi_text : objL 1 [104, 105] = [98, 108, 111, 98, 32, 50, 0, 104, 105] := by decide +kernel

set_option maxHeartbeats 1000000 in
set_option maxRecDepth 100000 in
theorem Awake_15 (w : World) (hT : Pow w) : Calls Tryd.prog 15 #[] w fun e w' => e = .returned (.bool true) ∧ Below w.heap.size w w' := by
  have hba : Below w.heap.size w (w.alloc (.cells #[.int .u8 104, .int .u8 105] 5 (2, 3))) := (Below.refl _ _).alloc (Nat.le_refl _) _
  have hin : InB (w.alloc (.cells #[.int .u8 104, .int .u8 105] 5 (2, 3))) (some ⟨w.heap.size, 0, none⟩) [104, 105] := fun _ => ⟨_, _, rfl, by simp, fun i hi => by
    rw [Nat.zero_add, World.cell?_alloc_mark]
    obtain rfl | rfl : i = 0 ∨ i = 1 := by simp at hi; omega
    · rfl
    · rfl⟩
  have cp := Print_17_yes 1 (.inl rfl) _ (hT.below hba) (some ⟨w.heap.size, 0, none⟩) 2 [104, 105] hin (by decide)
  rw [hi_text] at cp
  have hcc := Lib.run_convert_bytes_const (P := Tryd.prog) w 30 5 #[.int .u8 104, .int .u8 105] 2 2 Tryd.underlying30 Tryd.underlying5
  go_enter Tryd.func15, Tryd.ntmps15
  go_wp2_with fail
  refine cp.mono ?_
  rintro e w1 ⟨v, rfl, p1, c1, rfl, hc1, hp1, hi1, hb1⟩
  have hcv := conv_str w1 p1 c1 _ 9 rfl hi1
  have hb2 := hba.trans (hb1.mono (by simp))
  clear hi1 cp hc1 hp1
  go_wp2
  go_ret
  exact ⟨rfl, hb2⟩
end Go.Proofs.Tre
