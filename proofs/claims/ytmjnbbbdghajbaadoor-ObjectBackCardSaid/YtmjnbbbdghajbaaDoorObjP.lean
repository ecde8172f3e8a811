/- object.Print, trestleref07.Print. -/
import Derived.Test.YtmjnbbbdghajbaaDoorApp
import Derived.Test.YtmjnbbbdghajbaaDoorCommitP
namespace Go.Proofs.Tre
open Go Go.RowKit Go.Proofs

/-- an object's bytes -/
def headL (k : Int) (n : Nat) : List UInt8 := (wordS k).data.toList ++ [32] ++ Lib.itoa n ++ [0]
def objL (k : Int) (l : List UInt8) : List UInt8 := headL k l.length ++ l
/-- the kinds -/
abbrev IsKind (k : Int) : Prop := k = 1 ∨ k = 2 ∨ k = 3

theorem word_no {k : Int} (h : ¬ IsKind k) : wordS k = ⟨#[]⟩ := by
  unfold wordS
  rw [if_neg (fun e => h (.inl e)), if_neg (fun e => h (.inr (.inl e))), if_neg (fun e => h (.inr (.inr e)))]

theorem word_yes {k : Int} (h : IsKind k) : (wordS k).toList.isEmpty = false := by
  rcases h with rfl | rfl | rfl <;> decide +kernel
theorem word_len (k : Int) : (wordS k).size ≤ 6 := by
  unfold wordS
  split; · decide
  split; · decide
  split; · decide
  decide

theorem keepS {w1 W W' : World} {g : Nat} {v0 v1 : Value} (hg : g < w1.heap.size) (h : W.cell? ⟨g, 0, none⟩ = some v0 ∧ W.cell? ⟨g, 1, none⟩ = some v1 ∧ Below w1.heap.size w1 W) (hb : Below W.heap.size W W') :
    W'.cell? ⟨g, 0, none⟩ = some v0 ∧ W'.cell? ⟨g, 1, none⟩ = some v1 ∧ Below w1.heap.size w1 W' :=
  ⟨hb.keep (Nat.lt_of_lt_of_le hg h.2.2.size) h.1, hb.keep (Nat.lt_of_lt_of_le hg h.2.2.size) h.2.1, h.2.2.trans (hb.mono h.2.2.size)⟩
theorem keepT {w1 W : World} {g : Nat} {v0 v1 : Value} (hT : Pow w1) (h : W.cell? ⟨g, 0, none⟩ = some v0 ∧ W.cell? ⟨g, 1, none⟩ = some v1 ∧ Below w1.heap.size w1 W) : Pow W := hT.below h.2.2

set_option maxHeartbeats 1000000 in
set_option maxRecDepth 100000 in
theorem Print_17_no (k : Int) (hk : ¬ IsKind k) (w : World) (p : Option Addr) (n c : Nat) :
    Calls Tryd.prog 17 #[.agg #[.int .i64 k, .slice p n c]] w (RetBE [] 10 w) := by
  have hw := word_no hk
  have cw := fun W => Word_any k W
  rw [hw] at cw
  clear hw
  go_enter Tryd.func17, Tryd.ntmps17
  go_wp2_with fail
  refine (cw _).mono ?_
  rintro e w1 ⟨rfl, hb⟩
  go_wp2
  go_ret2
  exact ⟨_, rfl, none, 0, rfl, Nat.le_refl _, fun _ => rfl, InB.nil _ _, ((Below.refl _ _).alloc (Nat.le_refl _) _).trans (hb.mono (by simp))⟩

set_option maxHeartbeats 1000000 in
set_option maxRecDepth 100000 in
theorem Print_18_no (k : Int) (hk : ¬ IsKind k) (w : World) (p : Option Addr) (n c : Nat) :
    Calls Tryd.prog 18 #[.agg #[.int .i64 k, .slice p n c]] w (RetBE [] 10 w) := by
  have hw := word_no hk
  have cw := fun W => WordR_any k W
  rw [hw] at cw
  clear hw
  go_enter Tryd.func18, Tryd.ntmps18
  go_wp2_with fail
  refine (cw _).mono ?_
  rintro e w1 ⟨rfl, rfl⟩
  go_wp2
  go_ret2
  exact ⟨_, rfl, none, 0, rfl, Nat.le_refl _, fun _ => rfl, InB.nil _ _, ((Below.refl _ _).alloc (Nat.le_refl _) _)⟩

set_option maxHeartbeats 1000000 in
set_option maxRecDepth 100000 in
theorem Print_17_yes (k : Int) (hk : IsKind k) (w : World) (hT : Pow w) (p : Option Addr) (c : Nat) (l : List UInt8) (hi : InB w p l) (hl : l.length ≤ 2000) :
    Calls Tryd.prog 17 #[.agg #[.int .i64 k, .slice p l.length c]] w (RetBE (objL k l) 0 w) := by
  have hw := word_yes hk
  have hl6 : decide (65536 < (l.length : Int)) = false := by simp; omega
  have cw := fun W => Word_any k W
  obtain ⟨s, hs⟩ : ∃ s, wordS k = s := ⟨_, rfl⟩
  have hsl := word_len k
  rw [hs] at hw cw hsl
  obtain ⟨s2, hs2, hz2⟩ := text_of (Lib.itoa l.length)
  have cn : ∀ W, Pow W → Calls Tryd.prog 61 #[.int .i64 l.length] W fun e w' => e = .returned (.string s2) ∧ Below W.heap.size W w' := fun W hW => by
    have := Number_any l.length W hW (by omega) (by omega)
    rw [← hs2] at this
    exact this
  have hz3 : (Lib.itoa l.length).length ≤ 10 := by rw [Lib.itoa_nonneg]; exact dec_len 10 _ (by omega) (by omega)
  rw [← hz2] at hz3
  have Hn := Lib.hid cn
  have Hw := Lib.hid cw
  obtain ⟨s9, hs9⟩ : ∃ s9, s ++ ⟨#[32]⟩ ++ s2 ++ ⟨#[0]⟩ = s9 := ⟨_, rfl⟩
  have Hs9 := Lib.hid hs9
  have hcb : ∀ W : World, (convert 9 30 (.string (s ++ ⟨#[32]⟩ ++ s2 ++ ⟨#[0]⟩))).run Tryd.prog W = .ok (.slice (some ⟨W.heap.size, 0, none⟩) s9.size (grownCap W s9.size 0 5)) (Lib.bytesWorld W 5 s9) := fun W => by
    rw [hs9]; exact conv_bytes W s9
  have hTb : Below w.heap.size w (w.alloc (.cells #[.int .i64 k, .slice p l.length c] 38)) := (Below.refl _ _).alloc (Nat.le_refl _) _
  have hL : objL k l = s9.data.toList ++ l := by
    unfold objL headL
    rw [hs, ← hs2, ← hs9]
    simp
  have HL := Lib.hid hL
  have hz9 : s9.data.toList.length ≤ 20 := by
    rw [← hs9, ← Lib.size_eq]
    simp [size_lit]
    omega
  have hq1 : ¬ 9223372036854775807 < s.size + 1 := by omega
  have hq2 : ¬ 9223372036854775807 < s.size + 1 + s2.size := by omega
  have hq3 : ¬ 9223372036854775807 < s.size + 1 + s2.size + 1 := by omega
  clear cw cn hs hs2 hL hk hz2 hz3 hs9
  go_enter Tryd.func17, Tryd.ntmps17
  go_wp2_with fail
  refine (Hw.out _).mono ?_
  rintro e w1 ⟨rfl, hb⟩
  have hs1 := hb.size
  simp only [World.size_alloc] at hs1
  have hb1 : Below w.heap.size w w1 := hTb.trans (hb.mono (by simp))
  have k0 : w1.cell? ⟨w.heap.size, 0, none⟩ = some (.int .i64 k) := hb.keep (by simp) (by simp [go_sem])
  have k1 : w1.cell? ⟨w.heap.size, 1, none⟩ = some (.slice p l.length c) := hb.keep (by simp) (by simp [go_sem])
  clear hb
  have hg1 : w.heap.size < w1.heap.size := by omega
  have hT1 : Pow w1 := Pow.below hT hb1
  go_upto_region 5 with fail
  go_cut [4] (fun s wc => Own w1.heap.size s s9.data.toList wc ∧ Below w1.heap.size w1 wc)
  case first =>
    go_region_with ((first
      | (go_at_call 25; refine (Hw.out _).mono ?_; rintro e w2 ⟨rfl, hb2⟩; have k2 := hb2.keep (b := w.heap.size) (o := 0) (by simp; omega) (by simpa using k0); have k3 := hb2.keep (b := w.heap.size) (o := 1) (by simp; omega) (by simpa using k1); have hb3 : Below w1.heap.size w1 w2 := (Below.refl _ _).drew.trans (hb2.mono (by simp)))
      | (go_at_call 61; refine (Hn.out _ (Pow.below hT1 hb3)).mono ?_; rintro e w3 ⟨rfl, hb4⟩)))
    all_goals
      have hb5 := hb3.trans (hb4.mono hb3.size)
      have ho := (bytes_own w3 s9).lower hb5.size
      have hb6 := hb5.trans ((bytes_below w3 s9).mono hb5.size)
      clear hb3 hb4
      go_wp2
      go_meet
      case rel => exact ⟨ho, hb6⟩
  case rest =>
    obtain ⟨ho, hb2⟩ := hcut
    have k3 := hb2.keep (b := w.heap.size) (o := 1) hg1 k1
    have hi3 := hi.below (hb1.trans (hb2.mono (by omega)))
    have hsz := hb2.size
    go_wp2_with (at_builtin; refine wpList_append_B _ rfl (.tmp 26) (.tmp 28) rfl w1.heap.size _ s9.data.toList rfl ho hsz p l.length c l rfl rfl hi3 (by omega) ?_; intro v' w3 ho3 hb3)
    go_ret2
    refine ⟨_, rfl, ?_⟩
    rw [HL.out]
    exact (ho3.lower (by omega)).ret ((hb1.trans (hb2.mono (by omega))).trans (hb3.mono (by omega)))

set_option maxHeartbeats 1000000 in
set_option maxRecDepth 100000 in
theorem Print_18_yes (k : Int) (hk : IsKind k) (w : World) (p : Option Addr) (c : Nat) (l : List UInt8) (hi : InB w p l) (hl : l.length ≤ 2000) :
    Calls Tryd.prog 18 #[.agg #[.int .i64 k, .slice p l.length c]] w (RetBE (objL k l) 0 w) := by
  have hw := word_yes hk
  have hl6 : decide (65536 < (l.length : Int)) = false := by simp; omega
  have cw : ∀ W, Calls Tryd.prog 26 #[.int .i64 k] W fun e w' => e = .returned (.string (wordS k)) ∧ Below W.heap.size W w' := fun W => (WordR_any k W).mono fun e w' ⟨h1, h2⟩ => ⟨h1, by subst h2; exact Below.refl _ _⟩
  obtain ⟨s, hs⟩ : ∃ s, wordS k = s := ⟨_, rfl⟩
  have hsl := word_len k
  rw [hs] at hw cw hsl
  obtain ⟨s2, hs2, hz2⟩ := text_of (Lib.itoa l.length)
  have cn : ∀ W, Calls Tryd.prog 62 #[.int .i64 l.length] W fun e w' => e = .returned (.string s2) ∧ Below W.heap.size W w' := fun W => by
    have := NumberR_any l.length W (by omega)
    rw [← hs2] at this
    exact this
  have hz3 : (Lib.itoa l.length).length ≤ 10 := by rw [Lib.itoa_nonneg]; exact dec_len 10 _ (by omega) (by omega)
  rw [← hz2] at hz3
  have Hn := Lib.hid cn
  have Hw := Lib.hid cw
  obtain ⟨s9, hs9⟩ : ∃ s9, s ++ ⟨#[32]⟩ ++ s2 ++ ⟨#[0]⟩ = s9 := ⟨_, rfl⟩
  have hcb : ∀ W : World, (convert 9 30 (.string (s ++ ⟨#[32]⟩ ++ s2 ++ ⟨#[0]⟩))).run Tryd.prog W = .ok (.slice (some ⟨W.heap.size, 0, none⟩) s9.size (grownCap W s9.size 0 5)) (Lib.bytesWorld W 5 s9) := fun W => by
    rw [hs9]; exact conv_bytes W s9
  have hTb : Below w.heap.size w (w.alloc (.cells #[.int .i64 k, .slice p l.length c] 38)) := (Below.refl _ _).alloc (Nat.le_refl _) _
  have hL : objL k l = s9.data.toList ++ l := by
    unfold objL headL
    rw [hs, ← hs2, ← hs9]
    simp
  have HL := Lib.hid hL
  have hz9 : s9.data.toList.length ≤ 20 := by
    rw [← hs9, ← Lib.size_eq]
    simp [size_lit]
    omega
  have hq1 : ¬ 9223372036854775807 < s.size + 1 := by omega
  have hq2 : ¬ 9223372036854775807 < s.size + 1 + s2.size := by omega
  have hq3 : ¬ 9223372036854775807 < s.size + 1 + s2.size + 1 := by omega
  clear cw cn hs hs2 hL hk hz2 hz3 hs9
  go_enter Tryd.func18, Tryd.ntmps18
  go_wp2_with fail
  refine (Hw.out _).mono ?_
  rintro e w1 ⟨rfl, hb⟩
  have hs1 := hb.size
  simp only [World.size_alloc] at hs1
  have hb1 : Below w.heap.size w w1 := hTb.trans (hb.mono (by simp))
  have k0 : w1.cell? ⟨w.heap.size, 0, none⟩ = some (.int .i64 k) := hb.keep (by simp) (by simp [go_sem])
  have k1 : w1.cell? ⟨w.heap.size, 1, none⟩ = some (.slice p l.length c) := hb.keep (by simp) (by simp [go_sem])
  clear hb
  have hg1 : w.heap.size < w1.heap.size := by omega
  go_upto_region 6 with fail
  go_cut [2, 3] (fun s n wc => Own w1.heap.size s (objL k l) wc ∧ Below w1.heap.size w1 wc ∧ n = .int .i64 0)
  case first =>
    go_region_law ((first
      | (refine step_append_B _ rfl (.tmp 22) (.tmp 24) rfl w3.heap.size _ s9.data.toList rfl (bytes_own w3 s9) (bytes_below w3 s9).size p l.length c l rfl rfl ((hi.below (hb1.trans (hb3.mono (by omega)))).below (bytes_below w3 s9)) (by omega) ?_; intro v' w4 ho3 hb5)
      | (go_simp; go_at_call 62; refine (Hn.out _).mono ?_; rintro e w3 ⟨rfl, hb4⟩; have hb3 : Below w1.heap.size w1 w3 := (Below.refl _ _).drew.trans (hb4.mono (by simp)); have k4 := (bytes_below w3 s9).keep (b := w.heap.size) (o := 1) (by have := hb3.size; omega) (hb3.keep hg1 k1); have k5 := hb3.keep (b := w.heap.size) (o := 1) hg1 k1)))
    all_goals
      have hb6 := hb3.trans ((bytes_below w3 s9).mono hb3.size)
      have hb7 := hb6.trans (hb5.mono hb3.size)
      go_wp2
      go_meet
      case rel => exact ⟨by rw [HL.out]; exact ho3.lower hb3.size, hb7, rfl⟩
  case rest =>
    obtain ⟨ho, hb2, rfl⟩ := hcut
    go_wp2
    go_ret2
    refine ⟨_, rfl, ?_⟩
    exact (ho.lower (by omega)).ret (hb1.trans (hb2.mono (by omega)))
end Go.Proofs.Tre
