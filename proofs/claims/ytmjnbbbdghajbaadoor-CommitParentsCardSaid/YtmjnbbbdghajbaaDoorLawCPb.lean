/- trestlelaw09.CommitParents returns true: the law's own walk. -/
import Derived.Test.YtmjnbbbdghajbaaDoorLawCPs
import Derived.Deep.DeepCutAuto
import Derived.Deep.MidRow
import Derived.Deep.AppendLies
namespace Go.Proofs.Tre
open Go Go.RowKit Go.Proofs

attribute [local simp] IsID_drew idOf_drew IsID_drewN idOf_drewN
attribute [local go_sem ↓] exec_load_id exec_store_id exec_eq_id exec_ne_id exec_load_rec
attribute [local go_sem] runLoadRec_at runLoadId_at runStoreId_new runEqId_at runEqId_zero runNeId_at runNeId_zero runStoreId_mid runStoreId_mid_zero
attribute [local go_sem] IsID_drew idOf_drew IsID_drewN idOf_drewN IsID_alloc_past idOf_alloc_past IsID_alloc_at idOf_alloc_at

theorem idx_cells (k : Nat) (h : k ≤ 18) : (idx k).cells = [.int .u8 ((k : Int) + 1), .int .u8 0, .int .u8 0, .int .u8 0, .int .u8 0, .int .u8 0, .int .u8 0, .int .u8 0, .int .u8 0, .int .u8 0, .int .u8 0, .int .u8 0, .int .u8 0, .int .u8 0, .int .u8 0, .int .u8 0, .int .u8 0, .int .u8 0, .int .u8 0, .int .u8 0] := by
  have : ((UInt8.ofNat (k + 1)).toNat : Int) = (k : Int) + 1 := by simp; omega
  simp only [ID.cells, Lib.byteCells, idx, List.map_cons, this]
  rfl

theorem mod19 (n : Int) : ∃ m : Nat, m ≤ 18 ∧ wrap64 ((IntKind.u64.wrap n).tmod 19) = (m : Int) := by
  have h1 : 0 ≤ IntKind.u64.wrap n := by
    have : IntKind.u64.wrap n = n % 18446744073709551616 := by simp [IntKind.wrap, IntKind.signed, IntKind.bits]
    omega
  obtain ⟨u, hu⟩ := Int.eq_ofNat_of_zero_le h1
  refine ⟨u % 19, by omega, ?_⟩
  rw [hu, show ((u : Int).tmod 19) = ((u % 19 : Nat) : Int) from by rw [Int.tmod_eq_emod_of_nonneg (by omega)]; omega]
  unfold wrap64
  omega

def z20 : Array Value := #[.int .u8 0, .int .u8 0, .int .u8 0, .int .u8 0, .int .u8 0, .int .u8 0, .int .u8 0, .int .u8 0, .int .u8 0, .int .u8 0, .int .u8 0, .int .u8 0, .int .u8 0, .int .u8 0, .int .u8 0, .int .u8 0, .int .u8 0, .int .u8 0, .int .u8 0, .int .u8 0]
theorem info26 : (Tryd.prog.info? 26).map (fun i => (i.zero, i.size, i.bytes)) = some (some (.agg z20), 20, 20) := by kernel_rfl

set_option maxHeartbeats 8000000 in
set_option maxRecDepth 100000 in
theorem law_cp (n : Int) (zero twice : Bool) (w : World) (hT : Lib.Utf8Tabs 1 2 w) :
    Calls Tryd.prog 3 #[.int .i64 n, .bool zero, .bool twice] w fun e w' => e = .returned (.bool true) ∧ Below w.heap.size w w' := by
  obtain ⟨m, hm18, hm⟩ := mod19 n
  go_enter Tryd.func3, Tryd.ntmps3
  go_wp2_with (first
    | (with_reducible show wpList _ _ _ (⟨none, .store 29 _ _, _, _, _, _⟩ :: _) _ _; go_must (refine wpList_store_new rfl 29 (.tmp 8) (.tmp 21) rfl (w.heap.size + 1) _ _ rfl rfl (by simp) (by simp) (by kernel_rfl) (by simp [Value.oneCell']) ?_)))
  obtain ⟨i0, hi, hz0, hz1, hz2⟩ := info_parts info26
  generalize hW1 : ((w.alloc _).alloc _ : World) = W1
  have hb1 : Below w.heap.size w W1 := by rw [← hW1]; exact ((Below.refl _ _).alloc (Nat.le_refl _) _).alloc (by simp) _
  have hs1 : W1.heap.size = w.heap.size + 2 := by rw [← hW1]; simp
  have hr1 : W1.heap[w.heap.size + 1]? = some (.cells (recCells (.slice none 0 0) ⟨#[]⟩) 29 (0, 0)) := by rw [← hW1]; exact heap_alloc2_new w _ _
  have HW1 := Lib.hid hW1
  clear hW1
  go_loopw [9] (fun i wr => ∃ (k : Nat) (v : Value), k ≤ m ∧ i = .int .i64 k ∧ wr.heap[w.heap.size + 1]? = some (.cells (recCells v ⟨#[]⟩) 29 (0, 0)) ∧ wr.ownsRow (w.heap.size + 2) 26 20 v k (parCells (parK k)) ∧ Below w.heap.size w wr)
    (fun i _ => m - (intOf i).toNat)
  case atStart => exact ⟨0, _, Nat.zero_le _, rfl, hr1, World.ownsRow_nil _ _ _ _, hb1⟩
  case round =>
    obtain ⟨k, v, hk, rfl, hr, hown, hw⟩ := hrel
    have hc20 : wr.cell? ⟨w.heap.size + 1, 20, none⟩ = some v := by rw [cell_of_row wr _ 20 _ _ _ hr]; rfl
    have hsr := hw.size
    have hbr : w.heap.size + 1 < wr.heap.size := by
      rcases Nat.lt_or_ge (w.heap.size + 1) wr.heap.size with h | h
      · exact h
      · rw [Array.getElem?_eq_none h] at hr; cases hr
    by_cases hlt : k < m
    · have Hr := Lib.hid hr
      have Hown := Lib.hid hown
      clear hr hown
      have Hz0 := Lib.hid hz0
      have Hz1 := Lib.hid hz1
      have Hz2 := Lib.hid hz2
      have Hi := Lib.hid hi
      clear hz0 hz1 hz2 hi hr1 HW1
      go_wp2_with (first
        | (at_builtin; go_must (refine wpList_append_own _ rfl (.tmp 28) (.tmp 33) 27 rfl (w.heap.size + 2) 26 i0 (.agg z20) 20 20 Tryd.underlying27 Hi.out Hz0.out Hz1.out Hz2.out rfl (by decide) _ _ _ rfl (Hown.out.alloc _) ⟨wr.heap.size, 0, none⟩ 1 1 (idx k).cells rfl (by rw [ID.cells_length]) (by rw [idx_cells k (by omega)]; exact World.news_of_block (heap_alloc_new wr _)) (id_one _) (by unfold maxLen; omega) (by omega) (by simp; omega) ?_)))
      intro v2 w2 hown2 hgrow2 _
      obtain ⟨g, cap, rfl⟩ : ∃ g cap, v2 = .slice (some ⟨g, 0, none⟩) (k + 1) cap := by
        rcases hown2.2 with ⟨_, h0⟩ | ⟨g, cap, cur, hv2, _⟩
        · omega
        · exact ⟨g, cap, hv2⟩
      have hb2 : Below w.heap.size w w2 := (hw.alloc hsr _).grown hgrow2 (by simp; omega) (fun j hj => by have := Hown.out.lt j hj; omega)
      have hr2 : w2.heap[w.heap.size + 1]? = some (.cells (recCells v ⟨#[]⟩) 29 (0, 0)) := by
        rw [hgrow2.block _ (by simp; omega) (fun e => by have := Hown.out.lt _ e.symm; omega), heap_alloc_old _ _ hbr]; exact Hr.out
      have hc2 : w2.cell? ⟨w.heap.size + 1, 20, none⟩ = some v := by rw [cell_of_row w2 _ 20 _ _ _ hr2]; rfl
      have hf2 : w2.frozen? ⟨w.heap.size + 1, 20, none⟩ = false := frozen_of_row w2 _ 20 _ _ hr2
      have Hr2 := Lib.hid hr2
      have Hown2 := Lib.hid hown2
      clear hr2 hown2 hgrow2
      go_wp2
      go_roundw
      case rel =>
        refine ⟨k + 1, _, by omega, by go_num, heap_setCell_same w2 (w.heap.size + 1) 20 _ 29 _ Hr2.out, ?_, hb2.setCell (by simp) _⟩
        have e : parCells (parK (k + 1)) = parCells (parK k) ++ (idx k).cells := by rw [parK_succ]; simp [parCells]
        rw [e]
        exact ownsRow_setCell_below Hown2.out (by simp) _
      case measure => simp [intOf]; omega
    · obtain rfl : k = m := by omega
      have hS := lawSt_row (ps := parK k) (by rw [parK_length]) hr hown hw
      clear hr hown hw hc20 hr1 HW1 hi hz0 hz1 hz2 hb1
      have HS := Lib.hid hS
      clear hS hm
      go_upto_region 9 with fail
      go_cut [42] (fun s42 wc => s42 = .bool (zero && decide (0 < k)) ∧ wc = wr)
      case first =>
        have hk0 : decide ((0 : Int) < (k : Int)) = decide (0 < k) := by simp
        have HK0 := Lib.hid hk0
        clear hk0
        cases zero with
        | true =>
          go_wp2
          go_meet
          case rel => exact ⟨by rw [Bool.true_and, ← HK0.out], rfl⟩
        | false =>
          go_wp2
          go_meet
          case rel => exact ⟨rfl, rfl⟩
      case rest =>
        obtain ⟨rfl, rfl⟩ := hcut
        obtain ⟨bz, hbz⟩ : ∃ bz, (zero && decide (0 < k)) = bz := ⟨_, rfl⟩
        rw [hbz]
        have Hbz := Lib.hid hbz
        clear hbz
        go_upto_if 42 with fail
        go_cut [10] (fun s10 wc => s10 = .bool (want1 k zero) ∧ LawSt w (ps1 k zero) wc)
        case first =>
          cases bz with
          | true =>
            obtain ⟨hwant, hps⟩ := want1_hit k zero Hbz.out
            have hk0 : 0 < k := by have := Hbz.out; simp only [Bool.and_eq_true, decide_eq_true_eq] at this; exact this.2
            obtain ⟨q, rfl⟩ : ∃ q, k = q + 1 := ⟨k - 1, by omega⟩
            obtain ⟨pa, c, hr, hcap, _, _⟩ := HS.out
            obtain ⟨g, rfl, hth, hid, hS2⟩ := HS.out.store hr q (by rw [parK_length]; omega) ID.zero
            rw [parK_length] at hr
            have hc20 : wc.cell? ⟨w.heap.size + 1, 20, none⟩ = some (.slice (some ⟨g, 0, none⟩) (q + 1) c) := by rw [cell_of_row wc _ 20 _ _ _ hr]; rfl
            have HS2 := Lib.hid hS2
            have Hps := Lib.hid hps
            have Hwant := Lib.hid hwant
            clear hr hid hS2 hps hwant hcap
            go_wp2
            go_meet
            case rel => exact ⟨by rw [Hwant.out], by rw [Hps.out]; exact HS2.out⟩
          | false =>
            obtain ⟨hwant, hps⟩ := want1_miss k zero Hbz.out
            have Hps := Lib.hid hps
            have Hwant := Lib.hid hwant
            clear hps hwant
            go_wp2
            go_meet
            case rel => exact ⟨by rw [Hwant.out]; exact congrArg Value.bool (by simp; omega), by rw [Hps.out]; exact HS.out⟩
        case rest =>
          obtain ⟨rfl, hS⟩ := hcut
          have HS := Lib.hid hS
          obtain ⟨b10, hb10⟩ : ∃ b10, want1 k zero = b10 := ⟨_, rfl⟩
          rw [hb10]
          have Hb10 := Lib.hid hb10
          clear hS hb10 Hbz
          go_upto_region 12 with fail
          go_cut [53] (fun s53 wz => s53 = .bool (twice && decide (1 < k)) ∧ wz = wc)
          case first =>
            have hk0 : decide ((1 : Int) < (k : Int)) = decide (1 < k) := by simp; omega
            have HK0 := Lib.hid hk0
            clear hk0
            cases twice with
            | true =>
              go_wp2
              go_meet
              case rel => exact ⟨by rw [Bool.true_and, ← HK0.out], rfl⟩
            | false =>
              go_wp2
              go_meet
              case rel => exact ⟨rfl, rfl⟩
          case rest =>
            obtain ⟨rfl, rfl⟩ := hcut
            obtain ⟨bz, hbz⟩ : ∃ bz, (twice && decide (1 < k)) = bz := ⟨_, rfl⟩
            rw [hbz]
            have Hbz := Lib.hid hbz
            clear hbz
            go_upto_if 53 with fail
            go_cut [10] (fun s10 wc => s10 = .bool (want2 k zero twice) ∧ LawSt w (ps2 k zero twice) wc)
            case first =>
              cases bz with
              | true =>
                obtain ⟨hwant, hps⟩ := want2_hit k zero twice Hbz.out
                have hk1 : 1 < k := by have := Hbz.out; simp only [Bool.and_eq_true, decide_eq_true_eq] at this; exact this.2
                obtain ⟨pa, c, hr, hcap, _, _⟩ := HS.out
                have hl := ps1_length k zero
                obtain ⟨x1, hx1⟩ : ∃ x1, (ps1 k zero).getD 1 ID.zero = x1 := ⟨_, rfl⟩
                obtain ⟨g, rfl, hth, hid, hS2⟩ := HS.out.drew.store hr 0 (by omega) x1
                have hi1 : HasID wc.drew g 20 x1 := by
                  have := hid 1 (by omega)
                  rw [← hx1, show (ps1 k zero).getD 1 ID.zero = (ps1 k zero)[1]'(by omega) from by simp [List.getD, hl, hk1]]
                  exact this
                rw [hx1] at hps
                rw [hl] at hr
                have i1 := hi1.is
                have i2 := hi1.of
                have hc20 : wc.cell? ⟨w.heap.size + 1, 20, none⟩ = some (.slice (some ⟨g, 0, none⟩) k c) := by rw [cell_of_row wc _ 20 _ _ _ hr]; rfl
                rw [Nat.zero_mul] at hS2
                have HS2 := Lib.hid hS2
                have Hps := Lib.hid hps
                have Hwant := Lib.hid hwant
                have hk1z : (1 : Int) < (k : Int) := by omega
                have hk0z : 0 < k := by omega
                have hth2 : wc.drew.there g 0 20 := by simpa using hth
                rw [IsID_drew] at i1
                rw [idOf_drew] at i2
                clear hr hid hS2 hps hwant hcap hi1 hx1 hth hl
                go_wp2_with fail
                go_still_tail 7, (by kernel_rfl)
                change wpList _ _ _ _ _ wc.drew
                go_wp2
                go_meet
                case rel => exact ⟨by rw [Hwant.out], by rw [Hps.out]; exact HS2.out⟩
              | false =>
                obtain ⟨hwant, hps⟩ := want2_miss k zero twice Hbz.out
                have Hps := Lib.hid hps
                have Hwant := Lib.hid hwant
                clear hps hwant
                go_wp2
                go_meet
                case rel => exact ⟨by rw [Hwant.out, Hb10.out], by rw [Hps.out]; exact HS.out⟩
            case rest =>
              obtain ⟨rfl, hS⟩ := hcut
              obtain ⟨pa, c, hr, hcap, hin, hb⟩ := hS.idsIn
              have hRB := RB_want k hm18 zero twice
              have hlen := ps2_length k zero twice
              obtain ⟨ps, hps⟩ : ∃ ps, ps2 k zero twice = ps := ⟨_, rfl⟩
              rw [hps] at hr hcap hin hRB hlen
              have hT0 := Utf8Tabs_below hT hb
              have HR := Lib.hid hr
              have HT0 := Lib.hid hT0
              have hl18 : ps.length ≤ 18 := by omega
              have Hlen := Lib.hid hlen
              clear hlen
              have hgt : w.heap.size + 1 < wc.heap.size := by
                rcases Nat.lt_or_ge (w.heap.size + 1) wc.heap.size with h | h
                · exact h
                · rw [Array.getElem?_eq_none h] at hr; cases hr
              clear hS HS hr hT0 hps Hb10 Hbz
              cases hw2 : want2 k zero twice with
              | true =>
                rw [hw2] at hRB
                have cp := Print_yes wc pa c ps HT0.out hin (by omega) hcap ⟨#[]⟩ (by decide) (by decide +kernel) (Or.inl rfl) hRB
                have HRB := Lib.hid hRB
                clear hw2 hRB
                have q1 : IsRec wc (w.heap.size + 1) := ⟨_, _, _, HR.out, rfl⟩
                have q2 : recOf wc (w.heap.size + 1) = recCells (.slice pa ps.length c) ⟨#[]⟩ := by unfold recOf; rw [HR.out]
                go_wp2_with fail
                refine cp.mono ?_
                rintro e w1 ⟨v1, rfl, p1, c1, rfl, hc1, hp1, hin1, hb1⟩
                have hs1 := hb1.size
                go_wp2_with fail
                refine (awake09 _ (Utf8Tabs_below HT0.out hb1)).mono ?_
                rintro e w2 ⟨rfl, hb2⟩
                have hb12 := hb1.trans (hb2.mono hs1)
                have hs2 := hb2.size
                have HR2 : Hid (w2.heap[w.heap.size + 1]? = some (.cells (recCells (.slice pa ps.length c) ⟨#[]⟩) 29 (0, 0))) := by
                  show _ = _
                  rw [hb12.block _ hgt]; exact HR.out
                have hin2 : IdsIn w2 pa ps := fun hp => by
                  obtain ⟨b, o, e, hl, hi⟩ := hin hp
                  exact ⟨b, o, e, by omega, hi.below hb12 hl⟩
                have cr := Right_any w2 pa c ps (Utf8Tabs_below HT0.out hb12) hin2 (by omega) hcap ⟨#[]⟩ (by decide) (by decide +kernel)
                rw [HRB.out] at cr
                clear hin hin2 cp
                have q3 : IsRec w2 (w.heap.size + 1) := ⟨_, _, _, HR2.out, rfl⟩
                have q4 : recOf w2 (w.heap.size + 1) = recCells (.slice pa ps.length c) ⟨#[]⟩ := by unfold recOf; rw [HR2.out]
                clear q1 q2
                go_wp2_with fail
                refine cr.mono ?_
                rintro e w3 ⟨rfl, hb3⟩
                go_wp2
                go_ret
                exact ⟨rfl, hb.trans ((hb12.mono hb.size).trans (hb3.mono (by have := hb.size; omega)))⟩
              | false =>
                rw [hw2] at hRB
                have cp := Print_no wc pa c ps HT0.out hin (by omega) hcap ⟨#[]⟩ (by decide) (by decide +kernel) hRB
                have HRB := Lib.hid hRB
                clear hw2 hRB
                have q1 : IsRec wc (w.heap.size + 1) := ⟨_, _, _, HR.out, rfl⟩
                have q2 : recOf wc (w.heap.size + 1) = recCells (.slice pa ps.length c) ⟨#[]⟩ := by unfold recOf; rw [HR.out]
                go_wp2_with fail
                refine cp.mono ?_
                rintro e w1 ⟨rfl, hb1⟩
                have hs1 := hb1.size
                go_wp2_with fail
                refine (awake09 _ (Utf8Tabs_below HT0.out hb1)).mono ?_
                rintro e w2 ⟨rfl, hb2⟩
                have hb12 := hb1.trans (hb2.mono hs1)
                have hs2 := hb2.size
                have HR2 : Hid (w2.heap[w.heap.size + 1]? = some (.cells (recCells (.slice pa ps.length c) ⟨#[]⟩) 29 (0, 0))) := by
                  show _ = _
                  rw [hb12.block _ hgt]; exact HR.out
                have hin2 : IdsIn w2 pa ps := fun hp => by
                  obtain ⟨b, o, e, hl, hi⟩ := hin hp
                  exact ⟨b, o, e, by omega, hi.below hb12 hl⟩
                have cr := Right_any w2 pa c ps (Utf8Tabs_below HT0.out hb12) hin2 (by omega) hcap ⟨#[]⟩ (by decide) (by decide +kernel)
                rw [HRB.out] at cr
                clear hin hin2 cp
                have q3 : IsRec w2 (w.heap.size + 1) := ⟨_, _, _, HR2.out, rfl⟩
                have q4 : recOf w2 (w.heap.size + 1) = recCells (.slice pa ps.length c) ⟨#[]⟩ := by unfold recOf; rw [HR2.out]
                clear q1 q2
                go_wp2_with fail
                refine cr.mono ?_
                rintro e w3 ⟨rfl, hb3⟩
                go_wp2
                go_ret
                exact ⟨rfl, hb.trans ((hb12.mono hb.size).trans (hb3.mono (by have := hb.size; omega)))⟩
end Go.Proofs.Tre
