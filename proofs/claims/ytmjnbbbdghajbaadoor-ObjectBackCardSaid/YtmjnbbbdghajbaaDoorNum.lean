/- Numbers as digits of ten: hexa.Number and trestleref01.Number come to the same text. -/
import Derived.Test.YtmjnbbbdghajbaaDoorObj
import Derived.WalkSmall
import Derived.Lib.ItoaMem
namespace Go.Proofs.Tre
open Go Go.RowKit Go.Proofs

/-- the table of powers of ten lies as its initialiser lays it -/
abbrev Pow (w : World) : Prop := Lib.TabIs Tryd.prog w "internal/strconv.uint64pow10" .u64 Lib.pow10Tab

theorem glob3 : Tryd.prog.globalNamed "internal/strconv.uint64pow10" = some 3 := by kernel_rfl

theorem Pow.below {w w' : World} (h : Pow w) (hb : Below w.heap.size w w') : Pow w' := by
  refine var?_below hb glob3 ?_ h
  rcases Nat.lt_or_ge 3 w.heap.size with h' | h'
  · exact h'
  · unfold Pow Lib.TabIs World.var? at h
    simp [glob3, Array.getElem?_eq_none h'] at h

theorem below_grow (w : World) (k : Nat) (os : Array Obj) : Below w.heap.size w (Go.Sort.grow (w.drewN k) os) :=
  ⟨rfl, rfl, rfl, by simp [Go.Sort.grow], fun i hi => by
    show (w.heap ++ os)[i]? = _
    rw [Array.getElem?_append_left hi]⟩

theorem Number_any (n : Int) (w : World) (h : Pow w) (h0 : -9223372036854775808 ≤ n) (h1 : n ≤ 9223372036854775807) :
    Calls Tryd.prog 61 #[.int .i64 n] w fun e w' => e = .returned (.string ⟨(Lib.itoa n).toArray⟩) ∧ Below w.heap.size w w' := by
  have c1 := Tryd.strconv_FormatInt_10 n h0 h1 w h
  obtain ⟨s, hs, _⟩ := text_of (Lib.itoa n)
  rw [← hs] at c1 ⊢
  clear hs
  go_enter Tryd.func61, Tryd.ntmps61
  go_wp2_with fail
  refine c1.mono ?_
  rintro e w1 ⟨rfl, k, os, rfl⟩
  go_wp2
  go_ret
  exact ⟨rfl, below_grow _ _ _⟩

theorem dec_len : ∀ (k u : Nat), 0 < k → u < 10 ^ k → (Lib.decDigits u).length ≤ k
  | 0, _, h, _ => absurd h (Nat.lt_irrefl 0)
  | k + 1, u, _, h => by
    rw [Lib.decDigits]
    split
    · simp
    · rename_i hb
      rcases Nat.eq_zero_or_pos k with hk | hk
      · subst hk; omega
      · have := dec_len k (u / 10) hk (by rw [Nat.pow_succ] at h; omega)
        simp; omega

set_option maxHeartbeats 2000000 in
set_option maxRecDepth 100000 in
theorem digits_any (u : Nat) : ∀ (w : World), u < 18446744073709551616 → ∀ s : ByteArray, s.data.toList = Lib.decDigits u → Calls Tryd.prog 102 #[.int .u64 (u : Int)] w fun e w' => e = .returned (.string s) ∧ Below w.heap.size w w' := by
  induction u using Nat.strongRecOn with
  | ind u ih =>
    intro w hu s hs
    by_cases h : u < 10
    · have hd := Lib.decDigits_one h
      have hcv := conv_str (w.alloc (.cells #[.int .u8 (48 + (u : Int))] 5)) (some ⟨w.heap.size, 0, none⟩) 1 [UInt8.ofNat (48 + u)] 1 rfl (by
        have := InB.of_block w [UInt8.ofNat (48 + u)] 5 _ rfl
        have e : ((UInt8.ofNat (48 + u)).toNat : Int) = 48 + (u : Int) := by simp; omega
        simpa only [Lib.byteCells, List.map_cons, List.map_nil, e] using this)
      rw [← hd, ← hs] at hcv
      clear hd ih hs
      go_enter Tryd.func102, Tryd.ntmps102
      go_wp2_with fail
      go_ret
      exact ⟨rfl, (Below.refl _ _).alloc (Nat.le_refl _) _⟩
    · have hd : Lib.decDigits u = Lib.decDigits (u / 10) ++ [UInt8.ofNat (48 + u % 10)] := by rw [Lib.decDigits, dif_neg h]
      obtain ⟨s1, hs1, hz1⟩ := text_of (Lib.decDigits (u / 10))
      obtain ⟨s2, hs2, hz2⟩ := text_of [UInt8.ofNat (48 + u % 10)]
      have hz1' : s1.size ≤ 20 := by rw [hz1]; exact dec_len 20 _ (by omega) (by omega)
      have hz2' : s2.size ≤ 1 := by rw [hz2]; simp
      have ih1 : ∀ W, Calls Tryd.prog 102 #[.int .u64 ((u : Int) / 10)] W fun e w' => e = .returned (.string s1) ∧ Below W.heap.size W w' := fun W => by
        rw [show ((u : Int) / 10) = ((u / 10 : Nat) : Int) from by omega]
        exact ih (u / 10) (by omega) W (by omega) s1 hs1
      have hfin : s1 ++ s2 = s := by
        apply ByteArray.ext
        apply Array.toList_inj.1
        rw [hs, hd, ← hs1, ← hs2]
        simp
      have e : ((UInt8.ofNat (48 + u % 10)).toNat : Int) = 48 + (u : Int) % 10 := by simp; omega
      have hcv : ∀ W : World, InB W (some ⟨W.heap.size - 1, 0, none⟩) [UInt8.ofNat (48 + u % 10)] → True := fun _ _ => trivial
      have hc2 : ∀ W g, InB W (some ⟨g, 0, none⟩) [UInt8.ofNat (48 + u % 10)] → (convert 30 9 (.slice (some ⟨g, 0, none⟩) 1 1)).run Tryd.prog W = .ok (.string s2) W := fun W g hi => by
        have := conv_str W (some ⟨g, 0, none⟩) 1 _ 1 rfl hi
        rw [this, ← hs2]
      have hi2 : ∀ W : World, InB (W.alloc (.cells #[.int .u8 (48 + (u : Int) % 10)] 5)) (some ⟨W.heap.size, 0, none⟩) [UInt8.ofNat (48 + u % 10)] := fun W => by
        have := InB.of_block W [UInt8.ofNat (48 + u % 10)] 5 _ rfl
        simpa only [Lib.byteCells, List.map_cons, List.map_nil, e] using this
      have hc3 : ∀ W : World, (convert 30 9 (.slice (some ⟨W.heap.size, 0, none⟩) 1 1)).run Tryd.prog (W.alloc (.cells #[.int .u8 (48 + (u : Int) % 10)] 5)) = .ok (.string s2) (W.alloc (.cells #[.int .u8 (48 + (u : Int) % 10)] 5)) := fun W => hc2 _ _ (hi2 W)
      have q1 : IntKind.u64.wrap ((u : Int) / 10) = (u : Int) / 10 := by simp [IntKind.wrap, IntKind.signed, IntKind.bits]; omega
      have hc4 : ∀ W : World, (convert 30 9 (.slice (some ⟨W.heap.size, 0, none⟩) 1 1)).run Tryd.prog (W.alloc (.cells #[.int .u8 (48 + (u : Int) % 10)] 5)).drew = .ok (.string s2) (W.alloc (.cells #[.int .u8 (48 + (u : Int) % 10)] 5)).drew := fun W => hc2 _ _ (hi2 W)
      have qt : (u : Int).tmod 10 = (u : Int) % 10 := Int.tmod_eq_emod_of_nonneg (by omega)
      have q2 : IntKind.u64.wrap ((u : Int) % 10) = (u : Int) % 10 := by simp [IntKind.wrap, IntKind.signed, IntKind.bits]; omega
      have q3 : IntKind.u64.wrap (48 + (u : Int) % 10) = 48 + (u : Int) % 10 := by simp [IntKind.wrap, IntKind.signed, IntKind.bits]; omega
      have q4 : IntKind.u8.wrap (48 + (u : Int) % 10) = 48 + (u : Int) % 10 := by simp [IntKind.wrap, IntKind.signed, IntKind.bits]; omega
      have IH := Lib.hid ih1
      have Hd := Lib.hid hd
      have Hfin := Lib.hid hfin
      have Hc2 := Lib.hid hc2
      have Hi2 := Lib.hid hi2
      have hu0 : (0 : Int) ≤ (u : Int) := by omega
      clear hd ih ih1 hfin hz1 hz2 hs1 hs2 hs e hcv hc2 hi2
      go_enter Tryd.func102, Tryd.ntmps102
      go_wp2_with fail
      go_region_with ((refine (IH.out _).mono ?_; rintro e w5 ⟨rfl, hb5⟩; try (have hx := Hc2.out w5 w.heap.size (InB.below (w := (w.alloc (.cells #[.int .u8 (48 + (u : Int) % 10)] 5)).drew) (Hi2.out w) hb5))))
      all_goals
        go_wp2
        go_ret
        refine ⟨by rw [← Hfin.out]; rfl, ?_⟩
        first
          | exact ((Below.refl _ _).drew.trans hb5).alloc hb5.size _
          | exact (((Below.refl _ _).alloc (Nat.le_refl _) _).drew.trans (hb5.mono (by simp)))

theorem NumberR_any (n : Nat) (w : World) (h1 : n ≤ 100000) :
    Calls Tryd.prog 62 #[.int .i64 (n : Int)] w fun e w' => e = .returned (.string ⟨(Lib.itoa n).toArray⟩) ∧ Below w.heap.size w w' := by
  obtain ⟨s, hs, _⟩ := text_of (Lib.itoa n)
  rw [← hs]
  rw [Lib.itoa_nonneg] at hs
  have c1 := digits_any n w (by omega) s hs
  clear hs
  go_enter Tryd.func62, Tryd.ntmps62
  go_wp2_with fail
  refine c1.mono ?_
  rintro e w1 ⟨rfl, hb⟩
  go_wp2
  go_ret
  exact ⟨rfl, hb⟩
end Go.Proofs.Tre
