/- trestlelaw09.CommitParents returns true. -/
import Derived.Test.YtmjnbbbdghajbaaDoorCommitP
namespace Go.Proofs.Tre
open Go Go.RowKit Go.Proofs

theorem IdsIn_nil (w : World) (pa : Option Addr) : IdsIn w pa [] := fun h => absurd h (Nat.lt_irrefl 0)
open Classical in
theorem RB_nil : RB [] = true := by
  unfold RB
  rw [decide_eq_true]
  exact ⟨fun j h => absurd h (Nat.not_lt_zero _), by simp⟩

theorem recL_head (ps : List ID) (tx : List UInt8) : (recL ps tx)[0]? = some 116 ∧ 60 < (recL ps tx).length := by
  constructor
  · rfl
  · simp [recL, treeL, tailL, whoL, hexL_length, ID.one]; omega

set_option maxHeartbeats 1000000 in
set_option maxRecDepth 100000 in
theorem awake09 (w : World) (hT : Lib.Utf8Tabs 1 2 w) : Calls Tryd.prog 13 #[] w fun e w' => e = .returned (.bool true) ∧ Below w.heap.size w w' := by
  obtain ⟨L, hL⟩ : ∃ L, recL [] (⟨#[120]⟩ : ByteArray).data.toList = L := ⟨_, rfl⟩
  obtain ⟨h0, hl⟩ := recL_head [] (⟨#[120]⟩ : ByteArray).data.toList
  have cp : ∀ W, Lib.Utf8Tabs 1 2 W → Calls Tryd.prog 12 #[.agg (recCells (.slice none 0 0) ⟨#[120]⟩)] W (RetBE L 0 W) := fun W hT => by
    rw [← hL]
    exact Print_yes W none 0 [] hT (IdsIn_nil W none) (by simp) (by simp) ⟨#[120]⟩ (by decide) (by decide +kernel) (Or.inr rfl) RB_nil
  rw [hL] at h0 hl
  clear hL
  go_enter Tryd.func13, Tryd.ntmps13
  go_wp2_with fail
  refine (cp _ (Utf8Tabs_below hT ((Below.refl _ _).alloc (Nat.le_refl _) _))).mono ?_
  rintro e w1 ⟨v, rfl, p, c, rfl, hc, hp, hin, hb⟩
  obtain ⟨b, o, rfl, hlt, hcl⟩ := hin (by omega)
  have hc0 := hcl 0 (by omega)
  have e0 : L[0]'(by omega) = 116 := by
    rw [List.getElem?_eq_getElem (by omega)] at h0; exact Option.some.inj h0
  rw [e0] at hc0
  obtain ⟨n, hn⟩ : ∃ n, L.length = n := ⟨_, rfl⟩
  have hc0' : w1.cell? ⟨b, o, none⟩ = some (.int .u8 116) := hc0
  rw [hn] at hl hc ⊢
  clear hin hcl hc0 e0 h0 hn cp
  have hn0 : (0 : Int) < (n : Int) := by omega
  have hn60 : (60 : Int) < (n : Int) := by omega
  go_wp2
  go_ret
  exact ⟨rfl, ((Below.refl _ _).alloc (Nat.le_refl _) _).trans (hb.mono (by simp))⟩
end Go.Proofs.Tre
