/- trestleref07.Parse. -/
import Derived.Test.YtmjnbbbdghajbaaDoorObjQ
import Derived.Test.YtmjnbbbdghajbaaDoorHelp
namespace Go.Proofs.Tre
open Go Go.RowKit Go.Proofs

/-- trestlehelp.Bytes -/
theorem Bytes_any (w : World) (p q : Option Addr) (n m c d : Nat) (a b : List UInt8) (hn : n = a.length) (hm : m = b.length) (ha : InB w p a) (hb : InB w q b) :
    Calls Tryd.prog 21 #[.slice p n c, .slice q m d] w fun e w' => e = .returned (.bool (a == b)) ∧ w' = w := by
  have h1 := conv_str w p c a n hn ha
  have h2 := conv_str w q d b m hm hb
  have h3 : ((⟨a.toArray⟩ : ByteArray).toList == (⟨b.toArray⟩ : ByteArray).toList) = (a == b) := by simp [Lib.toList_data]
  obtain ⟨s, hs⟩ : ∃ s : ByteArray, ⟨a.toArray⟩ = s := ⟨_, rfl⟩
  obtain ⟨t, ht⟩ : ∃ s : ByteArray, ⟨b.toArray⟩ = s := ⟨_, rfl⟩
  rw [hs] at h1 h3
  rw [ht] at h2 h3
  rw [← h3]
  clear hs ht hn hm h3 ha hb
  go_enter Tryd.func21, Tryd.ntmps21
  go_wp2
  go_ret
  exact ⟨rfl, rfl⟩

theorem occ_zero (l : List UInt8) (k : Nat) : Lib.occAt l [0] k = true ↔ l[k]? = some 0 := by
  unfold Lib.occAt
  rw [List.isPrefixOf_iff_prefix]
  constructor
  · rintro ⟨t, ht⟩
    have := congrArg (fun x => x[0]?) ht
    simpa using this.symm
  · intro h
    refine ⟨l.drop (k + 1), ?_⟩
    have hk : k < l.length := by
      rcases Nat.lt_or_ge k l.length with h' | h'
      · exact h'
      · rw [List.getElem?_eq_none h'] at h; cases h
    rw [List.drop_eq_getElem_cons hk]
    rw [List.getElem?_eq_getElem hk] at h
    rw [Option.some.inj h]
    rfl

theorem Find_zero (s : ByteArray) (w : World) (hs : s.size ≤ 100000) :
    Calls Tryd.prog 67 #[.string s, .string ⟨#[0]⟩, .int .i64 0] w fun e w' => e = .returned (.int .i64 (Lib.indexByte s.data.toList 0)) ∧ w' = w :=
  (Find_any s ⟨#[0]⟩ 0 w hs (by decide) (by decide) (Nat.zero_le _)).mono fun e w' ⟨h1, r, h2, h3⟩ => by
    refine ⟨?_, h1⟩
    rw [h2, ← Lib.index_one]
    rcases h3 with ⟨rfl, h⟩ | ⟨k, rfl, _, h, hn⟩
    · rw [Lib.index_none fun j _ => h j (Nat.zero_le _)]
    · have hk : k ≤ s.data.toList.length := by
        rcases Nat.lt_or_ge s.data.toList.length k with h' | h'
        · have := (occ_zero _ _).1 h
          rw [List.getElem?_eq_none (by omega)] at this; cases this
        · exact h'
      rw [Lib.index_first hk h fun j hj => hn j (Nat.zero_le _) hj]

theorem slice_from (W : World) (p : Option Addr) (n c j : Nat) (hj : j ≤ n) : (Instr.slice 30 (.slice p n c) (some (.int .i64 (j : Int))) none none).run Tryd.prog W = .ok (.slice (if c = j then p else p.map (fun x => x.add j)) (n - j) (c - j)) W := by
  have h30 : Tryd.prog.elem 30 = 5 := by kernel_rfl
  have := run_slice_l (P := Tryd.prog) W 30 p n c (by rw [h30]; exact Tryd.underlying30) .i64 (j : Int) (by omega) (by omega)
  rw [this, h30]
  obtain ⟨i5, hi5, hz1, _, _⟩ := info5
  simp [sizeOf, typeInfo, hi5, hz1, sliced]

theorem not_begins {l : List UInt8} {k : Int} (h : Lib.hasPrefix l ((wordS k).data.toList ++ [32]) = false) : isO l k = false := by
  unfold isO
  rw [Bool.and_eq_false_iff]
  right
  rw [beq_eq_false_iff_ne]
  intro e
  have : Lib.hasPrefix l ((wordS k).data.toList ++ [32]) = true := by
    unfold Lib.hasPrefix
    rw [List.isPrefixOf_iff_prefix, ← e]
    exact ⟨Lib.itoa (after l).length ++ [0] ++ after l, by simp [objL, headL]⟩
  rw [this] at h; cases h

set_option maxHeartbeats 2000000 in
set_option maxRecDepth 100000 in
theorem Parse_20 (w : World) (p : Option Addr) (c : Nat) (l : List UInt8) (hi : InB w p l) (hc : l.length ≤ c) (_hp : p = none → c = 0) (hl : l.length ≤ 2000) :
    Calls Tryd.prog 20 #[.slice p l.length c] w (RetO (parsed l) w) := by
  have hal := after_len l
  have hib := ib_ge l 0
  have hil : 0 ≤ Lib.indexByte l 0 → Lib.indexByte l 0 + 1 ≤ l.length := fun h => by
    rcases ib_spec l 0 with ⟨h1, _⟩ | ⟨a, t, e, hn⟩
    · omega
    · rw [e, ib_hit a t 0 hn]; simp; omega
  have hfr := hi.from c ((Lib.indexByte l 0).toNat + 1) hc
  have haf : after l = l.drop ((Lib.indexByte l 0).toNat + 1) := rfl
  rw [← haf] at hfr
  have hale : (after l).length = l.length - ((Lib.indexByte l 0).toNat + 1) := by simp [after]
  have HO1 : 0 ≤ Lib.indexByte l 0 → ∀ k, isO l k = (objL k (after l) == l) := fun h k => by
    have hdec : decide (0 ≤ Lib.indexByte l 0) = true := by simpa using h
    rw [isO, hdec, Bool.true_and]
  have HO2 : ¬ 0 ≤ Lib.indexByte l 0 → ∀ k, isO l k = false := fun h k => by
    have hdec : decide (0 ≤ Lib.indexByte l 0) = false := by simpa using h
    rw [isO, hdec, Bool.false_and]
  have HO3 : ∀ k, Lib.hasPrefix l ((wordS k).data.toList ++ [32]) = false → isO l k = false := fun k h => not_begins h
  have hcv : ∀ W, InB W p l → (convert 30 9 (.slice p l.length c)).run Tryd.prog W = .ok (.string ⟨l.toArray⟩) W := fun W h => conv_str W p c l _ rfl h
  have hfz := fun W => Find_zero ⟨l.toArray⟩ W (by rw [Lib.size_eq]; simp; omega)
  have hbg := fun s W => Begins_any ⟨l.toArray⟩ s W
  have hpa := fun (j : Nat) h1 h3 hn h => parsed_at (l := l) (j := j) h1 h3 hn h
  have hpn := fun hn => parsed_none (l := l) hn
  obtain ⟨r, hr⟩ : ∃ r, parsed l = r := ⟨_, rfl⟩
  obtain ⟨t, ht⟩ : ∃ t, after l = t := ⟨_, rfl⟩
  obtain ⟨ix, hix⟩ : ∃ ix, Lib.indexByte l 0 = ix := ⟨_, rfl⟩
  obtain ⟨sb, hsb⟩ : ∃ sb : ByteArray, (⟨l.toArray⟩ : ByteArray) = sb := ⟨_, rfl⟩
  have hsl : sb.data.toList = l := by rw [← hsb]
  rw [hr]
  simp only [hr, ht] at hpa hpn
  rw [ht, hix] at hfr hale
  rw [ht] at hal
  rw [hix] at hib hil HO1 HO2
  rw [ht] at HO1
  simp only [hsb] at hcv hfz hbg
  simp only [hix] at hfz hbg
  have HPA := Lib.hid hpa
  have HPN := Lib.hid hpn
  have HHO1 := Lib.hid HO1
  have HHO2 := Lib.hid HO2
  have HHO3 := Lib.hid HO3
  have HCV := Lib.hid hcv
  have HFZ := Lib.hid hfz
  have HBG := Lib.hid hbg
  have HFR := Lib.hid hfr
  have HALE := Lib.hid hale
  clear hr ht hpa hpn HO1 HO2 HO3 hcv hfz hbg hfr hale haf hix hsb hsl
  go_enter Tryd.func20, Tryd.ntmps20
  go_wp2_with fail
  go_loopw [4] (fun i wr => ∃ j : Nat, 1 ≤ j ∧ j ≤ 4 ∧ i = .int .i64 j ∧ (∀ i : Nat, 1 ≤ i → i < j → isO l i = false) ∧ Below (w.heap.size + 1) (w.alloc (.cells #[.int .i64 0, .slice none 0 0] 38)) wr)
    (fun i _ => 4 - (intOf i).toNat)
  case atStart => exact ⟨1, by omega, by omega, rfl, fun i h1 h2 => by omega, Below.refl _ _⟩
  case round =>
    obtain ⟨j, hj1, hj4, rfl, hno, hbr⟩ := hrel
    have hxr := (Box.new w (.int .i64 0) (.slice none 0 0) 38).below hbr (by omega)
    have hbw : Below w.heap.size w wr := ((Below.refl _ _).alloc (Nat.le_refl _) _).trans (hbr.mono (by omega))
    have HNO := Lib.hid hno
    clear hno
    by_cases hlt : j < 4
    · have hj3 : decide ((j : Int) ≤ 3) = true := by simp; omega
      have hk : IsKind (j : Int) := by unfold IsKind; omega
      have cw := WordR_any j wr
      obtain ⟨s, hs⟩ : ∃ s, wordS j = s := ⟨_, rfl⟩
      have hsz := word_len j
      have ho3 := HHO3.out j
      rw [hs] at cw hsz ho3
      have hq1 : ¬ 9223372036854775807 < s.size + 1 := by omega
      have cb := HBG.out (s ++ ⟨#[32]⟩) wr
      rw [show (s ++ (⟨#[32]⟩ : ByteArray)).data.toList = s.data.toList ++ [32] from by simp] at cb
      have hiw := hi.below hbw
      have hcv := HCV.out wr hiw
      have hsr := hbr.size
      simp only [World.size_alloc] at hsr
      obtain ⟨bb, hbb⟩ : ∃ bb, Lib.hasPrefix l (s.data.toList ++ [32]) = bb := ⟨_, rfl⟩
      rw [hbb] at cb ho3
      have HO3 := Lib.hid ho3
      clear hbb hs ho3
      go_wp2_with fail
      refine cw.mono ?_
      rintro e w1 ⟨rfl, rfl⟩
      cases bb with
      | false =>
        go_wp2_with fail
        refine cb.mono ?_
        rintro e w2 ⟨rfl, rfl⟩
        go_wp2_with fail
        go_roundw
        case rel =>
          refine ⟨j + 1, by omega, by omega, by go_num, fun i h1 h2 => ?_, hbr⟩
          by_cases e : i = j
          · subst e; exact HO3.out (by first | rfl | trivial)
          · exact HNO.out i h1 (by omega)
        case measure => simp [intOf]; omega
      | true =>
        have cf := HFZ.out w1
        go_wp2_with fail
        refine cb.mono ?_
        rintro e w2 ⟨rfl, rfl⟩
        go_wp2_with fail
        refine cf.mono ?_
        rintro e w3 ⟨rfl, rfl⟩
        by_cases hix : 0 ≤ ix
        · have hd : decide (ix < 0) = false := by simp; omega
          obtain ⟨a, rfl⟩ : ∃ a : Nat, ix = a := ⟨ix.toNat, by omega⟩
          have hal2 : a + 1 ≤ l.length := by have := hil hix; omega
          have hfr := HFR.out
          have hale := HALE.out
          rw [Int.toNat_natCast] at hfr hale
          obtain ⟨p', hp'⟩ : ∃ p', (if c = a + 1 then p else p.map (fun x => x.add (a + 1))) = p' := ⟨_, rfl⟩
          obtain ⟨c', hc'⟩ : ∃ c', c - (a + 1) = c' := ⟨_, rfl⟩
          rw [hp'] at hfr
          have hsf : ∀ W, (Instr.slice 30 (.slice p l.length c) (some (.int .i64 ((a : Int) + 1))) none none).run Tryd.prog W = .ok (.slice p' t.length c') W := fun W => by
            have := slice_from W p l.length c (a + 1) hal2
            rw [hp', hc', ← hale, show (((a + 1 : Nat)) : Int) = (a : Int) + 1 from rfl] at this
            exact this
          have cc := Copy_any w3 p' c' t (hfr.below hbw) (by omega)
          clear hale hp' hc' hil hib hd
          go_wp2_with fail
          refine cc.mono ?_
          rintro e w4 ⟨v, rfl, q4, c4, rfl, hc4, hp4, hi4, hb4⟩
          have hba : Below w4.heap.size w4 (w4.alloc (.cells #[.int .i64 j, .slice q4 t.length c4] 38)) := (Below.refl _ _).alloc (Nat.le_refl _) _
          have cp := Print_18_yes j hk (w4.alloc (.cells #[.int .i64 j, .slice q4 t.length c4] 38)) q4 c4 t (hi4.below hba) (by omega)
          have hs4 := hb4.size
          have hbn := Box.new w4 (.int .i64 j) (.slice q4 t.length c4) 38
          have HI4 := Lib.hid hi4
          clear cc hi4
          go_wp2_with fail
          refine cp.mono ?_
          rintro e w5 ⟨v, rfl, q5, c5, rfl, hc5, hp5, hi5, hb5⟩
          have hb5' : Below w4.heap.size w4 w5 := hba.trans (hb5.mono (by simp))
          have hb35 : Below w3.heap.size w3 w5 := hb4.trans (hb5'.mono hs4)
          have hil : InB w5 p l := hiw.below hb35
          have ce := Bytes_any w5 q5 p _ _ c5 c _ l rfl rfl hi5 hil
          rw [← HHO1.out hix] at ce
          have hbx := hbn.below hb5 (by simp)
          have hxx := hxr.below hb35 (by omega)
          have hs5 := hb5.size
          simp only [World.size_alloc] at hs5
          clear cp hbn
          obtain ⟨bo, hbo⟩ : ∃ bo, isO l j = bo := ⟨_, rfl⟩
          rw [hbo] at ce
          have HBO := Lib.hid hbo
          clear hbo
          cases bo with
          | true =>
            have hx6 := hxx.set2 (.int .i64 j) (.slice q4 t.length c4)
            have hi6 := ((HI4.out.below hb5').set hxx.c0 (fun n => by simp) (.int .i64 j)).set ((World.cell?_setCell_other _ _ _ _ (by simp)).trans hxx.c1) (fun n => by simp) (.slice q4 t.length c4)
            have hw6 := below_set2 (hbw.trans (hb35.mono (by omega))) w.heap.size (Nat.le_refl _) (.int .i64 j) (.slice q4 t.length c4)
            have HX6 := Lib.hid hx6
            have HI6 := Lib.hid hi6
            have HW6 := Lib.hid hw6
            clear hx6 hi6 hw6
            have e0 := hbx.f0
            have e1 := hbx.f1
            have e2 := hbx.c0
            have e3 := hbx.c1
            have e4 := hxx.f0
            have e5 := hxx.f1
            have e6 := hxx.c0
            have e7 := hxx.c1
            clear hbx hxx hi5 hil
            go_wp2_with fail
            refine ce.mono ?_
            rintro e w6 ⟨rfl, rfl⟩
            go_wp2
            refine ret_obj (by kernel_rfl) rfl rfl HX6.out.c0 HX6.out.c1 rfl ?_
            have er := HPA.out j hj1 (by omega) HNO.out HBO.out
            subst er
            exact ⟨q4, c4, rfl, HI6.out, hc4, hp4, HW6.out⟩
          | false =>
            go_wp2_with fail
            refine ce.mono ?_
            rintro e w6 ⟨rfl, rfl⟩
            go_wp2_with fail
            go_roundw
            case rel =>
              refine ⟨j + 1, by omega, by omega, by go_num, fun i h1 h2 => ?_, hbr.trans (hb35.mono (by simpa using hsr))⟩
              by_cases e : i = j
              · subst e; exact HBO.out
              · exact HNO.out i h1 (by omega)
            case measure => simp [intOf]; omega
        · obtain rfl : ix = -1 := by omega
          have hrr := HPN.out (fun i _ _ => HHO2.out (by omega) _)
          subst hrr
          clear hix hil hib
          have hx' := hxr.set2 (.int .i64 0) (.slice none 0 0)
          have hw6 := below_set2 hbw w.heap.size (Nat.le_refl _) (.int .i64 0) (.slice none 0 0)
          obtain ⟨k0, k1, f0, f1⟩ := hxr
          go_wp2
          refine ret_obj (by kernel_rfl) rfl rfl hx'.c0 hx'.c1 rfl ?_
          exact ⟨none, 0, rfl, InB.nil _ _, Nat.le_refl _, fun _ => rfl, hw6⟩
    · obtain rfl : j = 4 := by omega
      have hrr := HPN.out HNO.out
      subst hrr
      have hx' := hxr.set2 (.int .i64 0) (.slice none 0 0)
      have hw6 := below_set2 hbw w.heap.size (Nat.le_refl _) (.int .i64 0) (.slice none 0 0)
      obtain ⟨k0, k1, f0, f1⟩ := hxr
      go_wp2
      refine ret_obj (by kernel_rfl) rfl rfl hx'.c0 hx'.c1 rfl ?_
      exact ⟨none, 0, rfl, InB.nil _ _, Nat.le_refl _, fun _ => rfl, hw6⟩
end Go.Proofs.Tre
