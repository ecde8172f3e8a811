/- trestlelaw07.ObjectBack returns true. -/
import Derived.Test.YtmjnbbbdghajbaaDoorLawOP
namespace Go.Proofs.Tre
open Go Go.RowKit Go.Proofs
attribute [local go_sem ↓] exec_eq_id exec_ne_id
attribute [local go_sem] runEqId_at runNeId_at

theorem dec_no_zero : ∀ (u : Nat), (0 : UInt8) ∉ Lib.decDigits u := by
  intro u
  induction u using Nat.strongRecOn with
  | ind u ih =>
    rw [Lib.decDigits]
    split
    · rename_i h
      intro hm
      simp only [List.mem_singleton] at hm
      have := congrArg UInt8.toNat hm
      rw [UInt8.toNat_ofNat'] at this
      simp at this
      omega
    · rename_i h
      intro hm
      rw [List.mem_append] at hm
      rcases hm with hm | hm
      · exact ih _ (by omega) hm
      · simp only [List.mem_singleton] at hm
        have := congrArg UInt8.toNat hm
        rw [UInt8.toNat_ofNat'] at this
        simp at this
        omega

theorem word_no_zero (k : Int) : (0 : UInt8) ∉ (wordS k).data.toList := by
  unfold wordS
  split; · decide
  split; · decide
  split; · decide
  decide

theorem objL_index (k : Int) (l : List UInt8) : Lib.indexByte (objL k l) 0 = (((wordS k).data.toList ++ [32] ++ Lib.itoa l.length).length : Int) ∧ after (objL k l) = l := by
  have e : objL k l = ((wordS k).data.toList ++ [32] ++ Lib.itoa l.length) ++ 0 :: l := by simp [objL, headL]
  have hn : (0 : UInt8) ∉ ((wordS k).data.toList ++ [32] ++ Lib.itoa l.length) := by
    rw [List.mem_append, List.mem_append]
    rintro ((h | h) | h)
    · exact word_no_zero k h
    · simp at h
    · unfold Lib.itoa at h
      rw [if_neg (by omega)] at h
      exact dec_no_zero _ h
  have hi := ib_hit _ l 0 hn
  rw [← e] at hi
  refine ⟨hi, ?_⟩
  unfold after
  rw [hi, Int.toNat_natCast, e, List.drop_append]
  simp

theorem word_first (k : Int) (h : IsKind k) : (wordS k).data.toList.head? = some (if k = 1 then 98 else if k = 2 then 116 else 99) := by
  rcases h with rfl | rfl | rfl <;> decide

theorem isO_print (k j : Int) (hk : IsKind k) (hj : IsKind j) (l : List UInt8) : isO (objL k l) j = decide (j = k) := by
  obtain ⟨h1, h2⟩ := objL_index k l
  unfold isO
  rw [h1, h2]
  simp only [Int.natCast_nonneg, decide_true, Bool.true_and]
  by_cases e : j = k
  · subst e; simp
  · rw [decide_eq_false e, beq_eq_false_iff_ne]
    intro he
    have h3 := congrArg List.head? he
    have hw := word_first k hk
    have hv := word_first j hj
    have hd : ∀ i, IsKind i → (objL i l).head? = (wordS i).data.toList.head? := fun i hi => by
      unfold objL headL
      rcases hi with rfl | rfl | rfl <;> rfl
    rw [hd k hk, hd j hj, hw, hv] at h3
    rcases hk with rfl | rfl | rfl <;> rcases hj with rfl | rfl | rfl <;> first | exact absurd rfl e | (revert h3; decide)

theorem parsed_print (k : Int) (hk : IsKind k) (l : List UInt8) : parsed (objL k l) = (k, l, 0) := by
  have h2 := (objL_index k l).2
  unfold parsed
  rw [isO_print k 1 hk (.inl rfl), isO_print k 2 hk (.inr (.inl rfl)), isO_print k 3 hk (.inr (.inr rfl)), h2]
  rcases hk with rfl | rfl | rfl <;> rfl

theorem parsed_either (b : List UInt8) : parsed b = (0, [], 4) ∨ ∃ k, IsKind k ∧ parsed b = (k, after b, 0) ∧ objL k (after b) = b := by
  have hx : ∀ k, isO b k = true → objL k (after b) = b := fun k h => by
    unfold isO at h
    simp only [Bool.and_eq_true, beq_iff_eq] at h
    exact h.2
  unfold parsed
  by_cases h1 : isO b 1 = true
  · exact .inr ⟨1, .inl rfl, by rw [if_pos h1], hx 1 h1⟩
  rw [if_neg h1]
  by_cases h2 : isO b 2 = true
  · exact .inr ⟨2, .inr (.inl rfl), by rw [if_pos h2], hx 2 h2⟩
  rw [if_neg h2]
  by_cases h3 : isO b 3 = true
  · exact .inr ⟨3, .inr (.inr rfl), by rw [if_pos h3], hx 3 h3⟩
  rw [if_neg h3]
  exact .inl rfl

theorem kind_of (kd : Int) : IsKind (wrap64 (1 + wrap64 ((IntKind.u64.wrap kd).tmod 3))) := by
  have h0 : 0 ≤ IntKind.u64.wrap kd := by rw [IntKind.wrap_u64]; omega
  obtain ⟨x, hx⟩ : ∃ x, IntKind.u64.wrap kd = x := ⟨_, rfl⟩
  rw [hx] at h0 ⊢
  rw [Int.tmod_eq_emod_of_nonneg h0]
  unfold wrap64 IsKind
  omega

set_option maxHeartbeats 4000000 in
set_option maxRecDepth 100000 in
theorem law_ob (w : World) (hT : Pow w) (kd : Int) (p q : Option Addr) (c d : Nat) (a b : List UInt8) (ha : InB w p a) (hb : InB w q b) (hbc : b.length ≤ d) (hbp : q = none → d = 0) :
    Calls Tryd.prog 5 #[.int .i64 kd, .slice p a.length c, .slice q b.length d] w fun e w' => e = .returned (.bool true) ∧ Below w.heap.size w w' := by
  by_cases h1 : 1500 < a.length
  · have d1 : decide ((1500 : Int) < a.length) = true := by simp; omega
    clear h1
    go_enter Tryd.func5, Tryd.ntmps5
    go_wp2_with fail
    refine (Awake_15 _ hT).mono ?_
    rintro e w1 ⟨rfl, hb1⟩
    go_wp2
    go_ret
    exact ⟨rfl, hb1⟩
  have d1 : decide ((1500 : Int) < a.length) = false := by simp; omega
  by_cases h2 : 2000 < b.length
  · have d2 : decide ((2000 : Int) < b.length) = true := by simp; omega
    clear h1 h2
    go_enter Tryd.func5, Tryd.ntmps5
    go_wp2_with fail
    refine (Awake_15 _ hT).mono ?_
    rintro e w1 ⟨rfl, hb1⟩
    go_wp2
    go_ret
    exact ⟨rfl, hb1⟩
  have d2 : decide ((2000 : Int) < b.length) = false := by simp; omega
  go_enter Tryd.func5, Tryd.ntmps5
  go_wp2_with fail
  have hk := kind_of kd
  obtain ⟨k, hk0⟩ : ∃ k, wrap64 (1 + wrap64 ((IntKind.u64.wrap kd).tmod 3)) = k := ⟨_, rfl⟩
  rw [hk0] at hk ⊢
  have n0 : Below w.heap.size w (w.alloc (.cells #[.int .i64 k, .slice p a.length c] 38)) := (Below.refl _ _).alloc (Nat.le_refl _) _
  have hlen := objL_len k a (by omega)
  have hpp := parsed_print k hk a
  have c17 := fun W h1 h2 => Print_17_yes k hk W h1 p c a h2 (by omega)
  have cid := fun W h1 h2 => Id_22_yes k hk W h1 p c a h2 (by omega)
  have hpos := objL_pos k a
  obtain ⟨x, hx⟩ : ∃ x, objL k a = x := ⟨_, rfl⟩
  rw [hx] at hlen hpp hpos
  simp only [hx] at c17 cid
  have c19 := fun W px cx h1 h2 h3 h4 => Parse_19 W h1 px cx x h2 h3 h4 (by omega)
  have csm := fun W px cx h2 => Sum_28 W px cx x h2 (by omega)
  simp only [hpp] at c19
  obtain ⟨id, hid⟩ : ∃ id, sumID x = id := ⟨_, rfl⟩
  simp only [hid] at cid csm
  have C17 := Lib.hid c17
  have CID := Lib.hid cid
  have C19 := Lib.hid c19
  have CSM := Lib.hid csm
  have HK := Lib.hid hk
  clear c17 cid c19 csm hpp hx hid hk
  refine (C17.out _ (hT.below n0) (ha.below n0)).mono ?_
  rintro e w1 ⟨v, rfl, px, cx, rfl, hcx, hpx, ix, n1⟩
  have bel := n0.trans (n1.mono n0.size)
  have k0 := keep_cell (W := w.alloc (.cells #[.int .i64 k, .slice p a.length c] 38)) (b := w.heap.size) (o := 0) (v := .int .i64 k) (by simp [go_sem]) n1
  have k1 := keep_cell (W := w.alloc (.cells #[.int .i64 k, .slice p a.length c] 38)) (b := w.heap.size) (o := 1) (v := .slice p a.length c) (by simp [go_sem]) n1
  go_wp2_with fail
  refine (C19.out _ px cx (hT.below bel) ix hcx hpx).mono ?_
  rintro e w2 ⟨pu, cu, rfl, iu, -, -, n2⟩
  dsimp only at iu
  have n3 : Below w2.heap.size w2 (w2.alloc (.cells #[.int .i64 k, .slice pu a.length cu] 38)) := (Below.refl _ _).alloc (Nat.le_refl _) _
  have n23 := n2.trans (n3.mono n2.size)
  replace k0 := keep_cell k0 n23
  replace k1 := keep_cell k1 n23
  replace ix := ix.below n23
  replace iu := iu.below n3
  replace bel := bel.trans (n23.mono bel.size)
  have m0 : (w2.alloc (.cells #[.int .i64 k, .slice pu a.length cu] 38)).cell? ⟨w2.heap.size, 0, none⟩ = some (.int .i64 k) := by simp [go_sem]
  have m1 : (w2.alloc (.cells #[.int .i64 k, .slice pu a.length cu] 38)).cell? ⟨w2.heap.size, 1, none⟩ = some (.slice pu a.length cu) := by simp [go_sem]
  clear n0 n1 n2 n3 n23
  go_wp2_with fail
  obtain ⟨M, hM⟩ : ∃ M, w2.alloc (.cells #[.int .i64 k, .slice pu a.length cu] 38) = M := ⟨_, rfl⟩
  rw [hM] at k0 k1 ix iu bel m0 m1 ⊢
  obtain ⟨b10, h10⟩ : ∃ b10, w2.heap.size = b10 := ⟨_, rfl⟩
  rw [h10] at m0 m1 ⊢
  clear hM h10
  refine (Awake_15 _ (hT.below bel)).mono ?_
  rintro e w3 ⟨rfl, n4⟩
  replace k0 := keep_cell k0 n4
  replace k1 := keep_cell k1 n4
  replace m0 := keep_cell m0 n4
  replace m1 := keep_cell m1 n4
  replace ix := ix.below n4
  replace iu := iu.below n4
  replace bel := bel.trans (n4.mono bel.size)
  clear n4
  go_wp2_with fail
  have c24 : Calls Tryd.prog 24 #[.agg #[.int .i64 k, .slice pu a.length cu], .agg #[.int .i64 k, .slice p a.length c]] w3 fun e w' => e = .returned (.bool true) ∧ Below w3.heap.size w3 w' :=
    (Object_any w3 k k pu p cu c a a iu (ha.below bel)).mono fun e w' ⟨h1, h2⟩ => ⟨by rw [h1]; simp, h2⟩
  refine c24.mono ?_
  rintro e w4 ⟨rfl, n5⟩
  replace k0 := keep_cell k0 n5
  replace k1 := keep_cell k1 n5
  replace ix := ix.below n5
  replace bel := bel.trans (n5.mono bel.size)
  clear n5 m0 m1 iu c24
  go_wp2_with fail
  refine (CID.out _ (hT.below bel) (ha.below bel)).mono ?_
  rintro e w5 ⟨rfl, n6⟩
  replace ix := ix.below n6
  replace bel := bel.trans (n6.mono bel.size)
  clear n6 k0 k1
  go_wp2_with fail
  refine (CSM.out _ px cx ix).mono ?_
  rintro e w6 ⟨rfl, n7⟩
  replace bel := bel.trans (n7.mono bel.size)
  have c19 := Parse_19 w6 (hT.below bel) q d b (hb.below bel) hbc hbp (by omega)
  clear n7 ix C17 CID C19 CSM HK hpx hcx hk0
  rcases parsed_either b with hpb | ⟨j, hj, hpb, hob⟩
  · rw [hpb] at c19
    clear hpb
    go_wp2_with fail
    refine c19.mono ?_
    rintro e w7 ⟨pv, cv, rfl, iv, -, -, n8⟩
    dsimp only [List.length_nil]
    replace bel := bel.trans (n8.mono bel.size)
    have n9 : Below w7.heap.size w7 (w7.alloc (.cells #[.int .i64 0, .slice pv 0 cv] 38)) := (Below.refl _ _).alloc (Nat.le_refl _) _
    have c24 : Calls Tryd.prog 24 #[.agg #[.int .i64 0, .slice pv 0 cv], .agg #[.int .i64 0, .slice none 0 0]] (w7.alloc (.cells #[.int .i64 0, .slice pv 0 cv] 38)) fun e w' => e = .returned (.bool true) ∧ Below (w7.alloc (.cells #[.int .i64 0, .slice pv 0 cv] 38)).heap.size (w7.alloc (.cells #[.int .i64 0, .slice pv 0 cv] 38)) w' :=
      (Object_any _ 0 0 pv none cv 0 [] [] (InB.nil _ _) (InB.nil _ _)).mono fun e w' ⟨h1, h2⟩ => ⟨by rw [h1]; simp, h2⟩
    clear n8 iv
    go_wp2_with fail
    refine c24.mono ?_
    rintro e w8 ⟨rfl, n10⟩
    replace bel := bel.trans ((n9.trans (n10.mono n9.size)).mono bel.size)
    clear c24
    go_wp2
    go_ret
    exact ⟨rfl, bel⟩
  · rw [hpb] at c19
    have hal := after_len b
    have c17 := fun W pv cv h1 h2 => Print_17_yes j hj W h1 pv cv (after b) h2 (by omega)
    simp only [hob] at c17
    obtain ⟨u, hu⟩ : ∃ u, after b = u := ⟨_, rfl⟩
    rw [hu] at c19 hal
    simp only [hu] at c17
    have C17 := Lib.hid c17
    clear hpb hob hu c17 hj
    go_wp2_with fail
    refine c19.mono ?_
    rintro e w7 ⟨pv, cv, rfl, iv, -, -, n8⟩
    dsimp only at iv ⊢
    replace bel := bel.trans (n8.mono bel.size)
    have n9 : Below w7.heap.size w7 (w7.alloc (.cells #[.int .i64 j, .slice pv u.length cv] 38)) := (Below.refl _ _).alloc (Nat.le_refl _) _
    have iv' := iv.below n9
    have c17 := C17.out _ pv cv (hT.below (bel.trans (n9.mono bel.size))) iv'
    clear n8 iv iv' c19 C17
    go_wp2_with fail
    refine c17.mono ?_
    rintro e w8 ⟨v, rfl, py, cy, rfl, -, -, iy, n10⟩
    replace bel := bel.trans ((n9.trans (n10.mono n9.size)).mono bel.size)
    have c21 : Calls Tryd.prog 21 #[.slice py b.length cy, .slice q b.length d] w8 fun e w' => e = .returned (.bool true) ∧ w8 = w' :=
      (Bytes_any w8 py q _ _ cy d b b rfl rfl iy (hb.below bel)).mono fun e w' ⟨h1, h2⟩ => ⟨by rw [h1]; simp, h2.symm⟩
    clear iy n9 n10 c17
    go_wp2_with fail
    refine c21.mono ?_
    rintro e w9 ⟨rfl, rfl⟩
    go_wp2
    go_ret
    exact ⟨rfl, bel⟩
end Go.Proofs.Tre
