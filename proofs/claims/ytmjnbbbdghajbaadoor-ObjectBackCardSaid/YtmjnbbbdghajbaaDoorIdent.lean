/- ident: who "A <a>" at second 0 is right, and how it is printed. -/
import Derived.Test.YtmjnbbbdghajbaaDoorHex
import Derived.Test.YtmjnbbbdghajbaaDoorBeside
import Derived.Deep.QuietTactic
import Derived.BigQuiet
import Derived.Deep.RegionHeld3
namespace Go.Proofs.Tre
open Go Go.RowKit Go.Proofs

theorem Valid_any (s : ByteArray) (w : World) (hs : s.size ≤ 9223372036854775807) (hT : Lib.Utf8Tabs 1 2 w) :
    Calls Tryd.prog 125 #[.string s] w fun e w' => e = .returned (.bool (Lib.validD s.data.toList)) ∧ Below w.heap.size w w' :=
  Any.utf8_ValidString Tryd.lays196 s w hs hT

/-- ident.bad -/
theorem bad_at (w : World) : PredAt Tryd.prog 127 #[] encR (fun r => r == 0 || r == 10 || r == 60 || r == 62) w := fun W r _ => by
  unfold FnGives
  by_cases h1 : r = 0
  · subst h1
    go_enter Tryd.func127, Tryd.ntmps127
    go_wp2
    go_ret; exact ⟨rfl, 0, rfl⟩
  by_cases h2 : r = 10
  · subst h2
    go_enter Tryd.func127, Tryd.ntmps127
    go_wp2
    go_ret; exact ⟨rfl, 0, rfl⟩
  by_cases h3 : r = 60
  · subst h3
    go_enter Tryd.func127, Tryd.ntmps127
    go_wp2
    go_ret; exact ⟨rfl, 0, rfl⟩
  have z1 : ((r : Int) == 0) = false := by simp; omega
  have z2 : ((r : Int) == 10) = false := by simp; omega
  have z3 : ((r : Int) == 60) = false := by simp; omega
  have hf : ((r : Int) == 62) = (r == 0 || r == 10 || r == 60 || r == 62) := by
    rw [show (r == 0) = false from by simpa using h1, show (r == 10) = false from by simpa using h2, show (r == 60) = false from by simpa using h3]
    by_cases h4 : r = 62
    · subst h4; rfl
    · rw [show (r == 62) = false from by simpa using h4]; simp; omega
  have HF := Lib.hid hf
  clear hf
  go_enter Tryd.func127, Tryd.ntmps127
  go_wp2
  go_ret
  exact ⟨by rw [← HF.out]; rfl, 0, rfl⟩

set_option maxHeartbeats 400000 in
theorem called_yes (s : ByteArray) (w : World) (hT : Lib.Utf8Tabs 1 2 w) (h1 : s.size ≤ 200) (h2 : Lib.validD s.data.toList = true)
    (h3 : decide (0 ≤ Lib.idxFunc (fun r => r == 0 || r == 10 || r == 60 || r == 62) true s) = false) (h4 : Lib.hasPrefix s.data.toList [32] = false) (h5 : Lib.hasSuffix s.data.toList [32] = false) :
    Calls Tryd.prog 98 #[.string s] w fun e w' => e = .returned (.bool true) ∧ Below w.heap.size w w' := by
  have hs63 : s.size ≤ 9223372036854775807 := by omega
  have c1 := Valid_any s w hs63 hT
  rw [h2] at c1
  have c2 := fun W => Tryd.strings_ContainsFunc 127 #[] (enters_of Tryd.func127 (by kernel_rfl) rfl) _ s W (bad_at W)
  rw [h3] at c2
  have c3 := fun W => Tryd.strings_HasPrefix s ⟨#[32]⟩ W
  have c4 := fun W => Tryd.strings_HasSuffix s ⟨#[32]⟩ W hs63
  simp only [h4, h5] at c3 c4
  clear h2 h3 h4 h5
  go_enter Tryd.func98, Tryd.ntmps98
  go_wp2_with fail
  refine c1.mono ?_
  rintro e w1 ⟨rfl, hb1⟩
  go_wp2_with fail
  refine (c2 _).mono ?_
  rintro e w2 ⟨rfl, hb2⟩
  go_wp2_with fail
  refine (c3 _).mono ?_
  rintro e w3 ⟨rfl, rfl⟩
  go_wp2_with fail
  refine (c4 _).mono ?_
  rintro e w4 ⟨rfl, rfl⟩
  go_wp2_with fail
  go_ret
  exact ⟨rfl, hb1.trans (hb2.mono hb1.size)⟩

set_option maxHeartbeats 400000 in
theorem Right_who (w : World) (hT : Lib.Utf8Tabs 1 2 w) :
    Calls Tryd.prog 59 #[.agg #[.string ⟨#[65]⟩, .string ⟨#[97]⟩, .int .i64 0, .int .i64 0]] w fun e w' => e = .returned (.bool true) ∧ Below w.heap.size w w' := by
  have cA := fun W hT => called_yes ⟨#[65]⟩ W hT (by decide) (by decide +kernel) (by decide +kernel) (by decide +kernel) (by decide +kernel)
  have ca := fun W hT => called_yes ⟨#[97]⟩ W hT (by decide) (by decide +kernel) (by decide +kernel) (by decide +kernel) (by decide +kernel)
  go_enter Tryd.func59, Tryd.ntmps59
  go_wp2_with fail
  refine (cA _ (Utf8Tabs_below hT (((Below.refl _ _).alloc (Nat.le_refl _) _)) )).mono ?_
  rintro e w1 ⟨rfl, hb1⟩
  have hs1 := hb1.size
  have k1 := fun i v h => hb1.keep (b := w.heap.size) (o := i) (v := v) (by simp) h
  have k11 := k1 1 (.string ⟨#[97]⟩) (by simp)
  have k12 := k1 2 (.int .i64 0) (by simp)
  have k13 := k1 3 (.int .i64 0) (by simp)
  simp only [World.size_alloc] at hs1
  clear k1
  go_wp2_with fail
  refine (ca _ (Utf8Tabs_below (Utf8Tabs_below hT ((Below.refl _ _).alloc (Nat.le_refl _) _)) hb1)).mono ?_
  rintro e w2 ⟨rfl, hb2⟩
  have k22 := hb2.keep (by omega) k12
  have k23 := hb2.keep (by omega) k13
  clear k11 k12 k13
  go_wp2
  go_ret
  exact ⟨rfl, ((((Below.refl _ _).alloc (Nat.le_refl _) _).trans (hb1.mono (by simp))).trans (hb2.mono (by omega)))⟩

theorem Number_zero (w : World) : Calls Tryd.prog 61 #[.int .i64 0] w fun e w' => e = .returned (.string ⟨#[48]⟩) ∧ w' = w := by
  have c1 := Tryd.strconv_FormatInt_10_small 0 (by omega) w
  have hd : Lib.decDigits 0 = [48] := by decide +kernel
  rw [hd] at c1
  clear hd
  go_enter Tryd.func61, Tryd.ntmps61
  go_wp2_with fail
  refine c1.mono ?_
  rintro e w1 ⟨rfl, rfl⟩
  go_wp2
  go_ret
  exact ⟨rfl, rfl⟩

theorem two_zero (w : World) : Calls Tryd.prog 124 #[.int .i64 0] w fun e w' => e = .returned (.string ⟨#[48, 48]⟩) ∧ Below w.heap.size w w' := by
  have hcv := conv_str (w.alloc (.cells #[.int .u8 48, .int .u8 48] 5)) (some ⟨w.heap.size, 0, none⟩) 2 [48, 48] 2 rfl (InB.of_block w [48, 48] 5 _ rfl)
  go_enter Tryd.func124, Tryd.ntmps124
  go_wp2
  go_ret
  exact ⟨rfl, (Below.refl _ _).alloc (Nat.le_refl _) _⟩

set_option maxRecDepth 100000 in
theorem zone_zero (w : World) : Calls Tryd.prog 96 #[.int .i64 0] w fun e w' => e = .returned (.string ⟨#[43, 48, 48, 48, 48]⟩) ∧ Below w.heap.size w w' := by
  go_enter Tryd.func96, Tryd.ntmps96
  go_wp2_with fail
  refine (two_zero _).mono ?_
  rintro e w1 ⟨rfl, hb1⟩
  go_wp2_with fail
  refine (two_zero _).mono ?_
  rintro e w2 ⟨rfl, hb2⟩
  go_wp2_with fail
  go_ret
  exact ⟨rfl, hb1.trans (hb2.mono hb1.size)⟩

set_option maxHeartbeats 1000000 in
set_option maxRecDepth 100000 in
theorem Print_who (w : World) (hT : Lib.Utf8Tabs 1 2 w) :
    Calls Tryd.prog 56 #[.agg #[.string ⟨#[65]⟩, .string ⟨#[97]⟩, .int .i64 0, .int .i64 0]] w fun e w' => e = .returned (.string ⟨#[65, 32, 60, 97, 62, 32, 48, 32, 43, 48, 48, 48, 48]⟩) ∧ Below w.heap.size w w' := by
  have c1 := Number_zero
  have c2 := zone_zero
  go_enter Tryd.func56, Tryd.ntmps56
  go_wp2_with fail
  refine (Right_who _ (Utf8Tabs_below hT (((Below.refl _ _).alloc (Nat.le_refl _) _)) )).mono ?_
  rintro e w1 ⟨rfl, hb1⟩
  have hs1 := hb1.size
  have k1 := fun i v h => hb1.keep (b := w.heap.size) (o := i) (v := v) (by simp) h
  have k10 := k1 0 (.string ⟨#[65]⟩) (by simp)
  have k11 := k1 1 (.string ⟨#[97]⟩) (by simp)
  have k12 := k1 2 (.int .i64 0) (by simp)
  have k13 := k1 3 (.int .i64 0) (by simp)
  simp only [World.size_alloc] at hs1
  clear k1
  go_wp2_with fail
  go_region_held3 (fun w' => w'.cell? ⟨w.heap.size, 1, none⟩ = some (.string ⟨#[97]⟩) ∧ w'.cell? ⟨w.heap.size, 2, none⟩ = some (.int .i64 0) ∧ w'.cell? ⟨w.heap.size, 3, none⟩ = some (.int .i64 0))
    (first
      | go_keep
      | exact ⟨hb6.keep (by simp; omega) (by simpa using k11), hb6.keep (by simp; omega) (by simpa using k12), hb6.keep (by simp; omega) (by simpa using k13)⟩)
    ((first | (go_at_call 61; refine (Number_zero _).mono ?_; rintro e w5 ⟨rfl, rfl⟩) | (go_at_call 96; refine (zone_zero _).mono ?_; rintro e w6 ⟨rfl, hb6⟩)))
  have k60 := hb6.keep (b := w.heap.size) (o := 0) (v := .string ⟨#[65]⟩) (by simp; omega) (by simpa using k10)
  clear k11 k12 k13
  go_wp2
  go_ret
  exact ⟨rfl, (((Below.refl _ _).alloc (Nat.le_refl _) _).trans (hb1.mono (by simp))).drew.trans (hb6.mono (by simp; omega))⟩
end Go.Proofs.Tre
