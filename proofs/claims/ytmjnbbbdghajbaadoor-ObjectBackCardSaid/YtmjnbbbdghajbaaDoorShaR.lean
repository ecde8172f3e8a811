/- trestleref02.Sum: the same sum. -/
import Derived.Test.YtmjnbbbdghajbaaDoorShaU
namespace Go.Proofs.Tre
open Go Go.RowKit Go.Proofs

theorem InB.setOther {w : World} {gb go : Nat} {l : List UInt8} (h : InB w (some ⟨gb, go, none⟩) l) (g o : Nat) (v : Value) (hg : g ≠ gb) : InB (w.setCell ⟨g, o, none⟩ v) (some ⟨gb, go, none⟩) l := fun hl => by
  obtain ⟨b, o', e, hlt, hc⟩ := h hl
  cases e
  exact ⟨_, _, rfl, by simpa using hlt, fun i hi => (World.cell?_setCell_other _ _ _ _ (fun e => hg (by cases e; rfl))).trans (hc i hi)⟩

theorem bigB_in (x : Int) (e : Nat) (y : Int) (hy : x / 2 ^ e % 256 = y) (W : World) : InB (W.alloc (.cells #[.int .u8 y] 5)) (some ⟨W.heap.size, 0, none⟩) [bigB x e] := by
  have := InB.of_block W [bigB x e] 5 W.heap.size rfl
  unfold Lib.byteCells at this
  rw [List.map_cons, List.map_nil, bigB_val, hy] at this
  exact this

theorem InB.belowAt {w w' : World} {gb go B : Nat} {l : List UInt8} (h : InB w (some ⟨gb, go, none⟩) l) (hb : Below B w w') (hg : gb < B) : InB w' (some ⟨gb, go, none⟩) l := fun hl => by
  obtain ⟨b, o', e, hlt, hc⟩ := h hl
  cases e
  exact ⟨_, _, rfl, Nat.lt_of_lt_of_le hlt hb.size, fun i hi => hb.keep hg (hc i hi)⟩

theorem byI_blk (m : List UInt8) (j i : Nat) (hi : i < 64) : byI (blk m j) i = byI m (64 * j + i) := by
  unfold byI blk
  rw [List.getD_eq_getElem?_getD, List.getD_eq_getElem?_getD, List.getElem?_take, if_pos hi, List.getElem?_drop]

theorem sch_blk (m : List UInt8) (j k : Nat) (hk : k < 16) : sch (blk m j) k = wd (byI m (64 * j + 4 * k)) (byI m (64 * j + 4 * k + 1)) (byI m (64 * j + 4 * k + 2)) (byI m (64 * j + 4 * k + 3)) := by
  rw [sch_lo _ _ hk, wordAt, byI_blk _ _ _ (by omega), byI_blk _ _ _ (by omega), byI_blk _ _ _ (by omega), byI_blk _ _ _ (by omega)]
  simp only [Nat.add_assoc]

set_option maxHeartbeats 4000000 in
set_option maxRecDepth 100000 in
theorem Sum_28 (w : World) (p : Option Addr) (c : Nat) (l : List UInt8) (hi : InB w p l) (hl : l.length ≤ 100000) :
    Calls Tryd.prog 28 #[.slice p l.length c] w fun e w' => e = .returned (sumID l).v ∧ Below w.heap.size w w' := by
  obtain ⟨z26, hz26, hzv26⟩ := zv26
  obtain ⟨z110, hz110, hzv110⟩ := zv110
  go_enter Tryd.func28, Tryd.ntmps28
  go_wp2_with (first
    | (with_reducible refine wpList_alloc_arr (op := ⟨some 2, _, _, _, _, _⟩) rfl 26 rfl z26 hzv26 ?_; intro wA hA hbA hsA)
    | (at_builtin; refine wpList_append_B _ rfl (.const (.slice none 0 0)) (.tmp 20) rfl (w.heap.size + 2) _ [] rfl (Own.nil _ _) (by simp [hsA]) p l.length c l rfl rfl (hi.below (hbA.alloc (by omega) _)) (by simp; omega) ?_; intro v1 w1 ho1 hb1; rw [List.nil_append] at ho1)
    | (at_builtin; have hs1 := hb1.size; simp only [World.size_alloc, hsA] at hs1; refine wpList_append_B _ rfl (.tmp 21) (.tmp 22) rfl (w.heap.size + 2) _ l rfl (ho1.below ((Below.refl _ _).alloc (Nat.le_refl _) _)) (by simp; omega) _ 1 1 [128] rfl rfl (InB.of_block _ [128] 5 _ rfl) (by simp; omega) ?_; intro v2 w2 ho2 hb2))
  rw [hz26] at hA
  have x0 : C5 (w.heap.size + 1) hInit (wA.alloc (.cells #[.int .u32 1732584193, .int .u32 4023233417, .int .u32 2562383102, .int .u32 271733878, .int .u32 3285377520] 108)) := by
    rw [← hsA]
    constructor <;> simp [go_sem, hInit]
  have hb12 : Below (w.heap.size + 2) (wA.alloc (.cells #[.int .u32 1732584193, .int .u32 4023233417, .int .u32 2562383102, .int .u32 271733878, .int .u32 3285377520] 108)) w2 := (hb1.alloc (by omega) _).trans hb2
  have hA2 : w2.there w.heap.size 0 20 := fun j hj => by
    rw [hb12.cell (p := ⟨w.heap.size, 0 + j, none⟩) (by show w.heap.size < w.heap.size + 2; omega), hb12.frozen (p := ⟨w.heap.size, 0 + j, none⟩) (by show w.heap.size < w.heap.size + 2; omega)]
    have := (Below.refl wA.heap.size wA).alloc (Nat.le_refl _) (.cells #[.int .u32 1732584193, .int .u32 4023233417, .int .u32 2562383102, .int .u32 271733878, .int .u32 3285377520] 108)
    rw [this.cell (p := ⟨w.heap.size, 0 + j, none⟩) (by show w.heap.size < _; omega), this.frozen (p := ⟨w.heap.size, 0 + j, none⟩) (by show w.heap.size < _; omega)]
    exact hA j hj
  have x2 := x0.below hb12 (by omega)
  have hbw2 : Below w.heap.size w w2 := (hbA.alloc (by omega) _).trans (hb12.mono (by omega))
  clear hi hA hbA hb1 hb2 hb12 ho1 x0 hs1 hsA
  have hs2 := x2.lt
  obtain ⟨H, hH⟩ : ∃ H, w.heap.size + 1 = H := ⟨_, rfl⟩
  rw [show w.heap.size + 2 = H + 1 from by omega] at ho2
  rw [hH] at x2 hs2 ⊢
  go_loopw [4] (fun v wr => ∃ z : Nat, z ≤ zc l.length ∧ Own (H + 1) v (padZ l z) wr ∧ Below (H + 1) w2 wr) (fun v _ => 200000 - lenV v)
  case atStart => exact ⟨0, Nat.zero_le _, ho2, Below.refl _ _⟩
  case round =>
    obtain ⟨z, hzz, ho, hbr⟩ := hrel
    clear ho2
    have hzl := zc_lt l.length
    obtain ⟨p2, c2, rfl, -, -, -⟩ := ho.form
    obtain ⟨q, hq⟩ : ∃ q, (padZ l z).length = q := ⟨_, rfl⟩
    have hq2 : q = l.length + 1 + z := by rw [← hq, padZ_length]
    have hstop := zc_stop l.length z hzz
    have hrb := hbr.size
    rw [hq]
    by_cases hzc : z = zc l.length
    · have d1 : ((q : Int) % 64 != 56) = false := by simp; omega
      subst hzc
      have hqq : (padT l 0).length = q := by rw [padT_length]; omega
      rw [show padZ l (zc l.length) = padT l 0 from by simp [padT, lenB]] at ho
      have HQ := Lib.hid hqq
      clear hstop hzl hq hq2 hqq
      go_wp2_with fail
      go_loopw [4, 6] (fun v i wr => ∃ j : Nat, j ≤ 8 ∧ i = .int .i64 (7 - (j : Int)) ∧ Own (H + 1) v (padT l j) wr ∧ Below (H + 1) w2 wr) (fun _ i _ => (intOf i + 1).toNat)
      case atStart => exact ⟨0, by omega, rfl, by rw [← HQ.out] at *; exact ho, hbr⟩
      case round =>
        obtain ⟨j, hj, rfl, ho, hbr⟩ := hrel
        by_cases hlt : j < 8
        · obtain ⟨e, he⟩ : ∃ e : Nat, 7 - (j : Int) = (e : Int) := ⟨7 - j, by omega⟩
          rw [he]
          have he2 : e ≤ 7 := by omega
          have hrb := hbr.size
          have hx := fun W => bigB_in ((8 * l.length : Nat) : Int) (56 - 8 * j) ((l.length : Int) * 8 / 2 ^ (8 * e) % 256) (by rw [show 56 - 8 * j = 8 * e from by omega, show ((8 * l.length : Nat) : Int) = (l.length : Int) * 8 from by omega]) W
          have hpl := padT_length l j
          have hzl := zc_lt l.length
          have hpm : (padT l j).length ≤ 100100 := by omega
          obtain ⟨p4, c4, rfl, -, -, -⟩ := ho.form
          have HX := Lib.hid hx
          have HE := Lib.hid he
          clear he hx hpl
          go_wp2_with (at_builtin; refine wpList_append_B _ rfl (.tmp 39) (.tmp 46) rfl (H + 1) _ (padT l j) rfl (ho.below ((Below.refl _ _).alloc (Nat.le_refl _) _)) (by simp; omega) _ 1 1 [bigB ((8 * l.length : Nat) : Int) (56 - 8 * j)] rfl rfl (HX.out _) (by omega) ?_; intro v' w4 ho4 hb4)
          have he := HE.out
          rw [show padT l j ++ [bigB ((8 * l.length : Nat) : Int) (56 - 8 * j)] = padT l (j + 1) from by rw [padT, padT, lenB_succ, List.append_assoc]] at ho4
          refine ⟨⟨j + 1, by omega, by congr 1; omega, ho4, (hbr.alloc (by omega) _).trans hb4⟩, by first | (simp [intOf]; done) | (simp [intOf]; omega)⟩
        · obtain rfl : j = 8 := by omega
          rw [show (7 - ((8 : Nat) : Int)) = -1 from by omega]
          rw [show padT l 8 = padL l from rfl] at ho
          have hpl := padL_length l
          have hrs := hbr.size
          have x3 := x2.below hbr (by omega)
          have hA3 : wr.there w.heap.size 0 20 := fun j hj => by
            rw [hbr.cell (p := ⟨w.heap.size, 0 + j, none⟩) (by show w.heap.size < H + 1; omega), hbr.frozen (p := ⟨w.heap.size, 0 + j, none⟩) (by show w.heap.size < H + 1; omega)]
            exact hA2 j hj
          have hbw3 : Below w.heap.size w wr := hbw2.trans (hbr.mono (by omega))
          obtain ⟨q, hq⟩ : ∃ q, (padL l).length = q := ⟨_, rfl⟩
          have hbl : 1 ≤ blocks l := by unfold blocks zc; omega
          have hbu : blocks l ≤ 2000 := by have := zc_lt l.length; unfold blocks; omega
          rw [hq] at hpl
          have hne : padL l ≠ [] := fun e => by rw [e] at hq; simp at hq; omega
          obtain ⟨gb, c3, rfl, hgb, hg2, hc3, hi4, -⟩ := ho.resolve_left (fun h => hne h.2)
          have hi3 : InB wr (some ⟨gb, 0, none⟩) (padL l) := fun _ => ⟨gb, 0, rfl, hg2, fun i hi => by rw [Nat.zero_add]; exact hi4 i hi⟩
          rw [hq] at hc3 ⊢
          have HPL := Lib.hid hpl
          have HQ9 := Lib.hid hq
          clear hA2 x2 hbw2 ho hpl hq hbr hne hi4
          obtain ⟨m, hm⟩ : ∃ m, m = wr := ⟨_, rfl⟩
          subst hm
          go_wp2_with fail
          go_loopw [7] (fun i wr => ∃ j : Nat, j ≤ blocks l ∧ i = .int .i64 ((64 * j : Nat) : Int) ∧ C5 H (hs (padL l) j) wr ∧ InB wr (some ⟨gb, 0, none⟩) (padL l) ∧ gb < wr.heap.size ∧ Below H m wr) (fun i _ => (64 * blocks l - (intOf i).toNat))
          case atStart => exact ⟨0, by omega, rfl, x3, hi3, hg2, Below.refl _ _⟩
          case round =>
            obtain ⟨j, hj, rfl, hc5, him, hgm, hbm⟩ := hrel
            clear x3 hi3 hg2
            obtain ⟨a, ha⟩ : ∃ a : Nat, 64 * j = a := ⟨_, rfl⟩
            rw [ha]
            by_cases hlt : j < blocks l
            · have hqa : a + 64 ≤ q := by have := HPL.out; omega
              have hq5 : q ≤ 128000 := by have := HPL.out; omega
              have d1 : decide (a < q) = true := by simp; omega
              have HA := Lib.hid ha
              have hHs := hc5.lt
              clear ha
              go_wp2_with ((with_reducible refine wpList_alloc_arr (op := ⟨some 8, _, _, _, _, _⟩) rfl 110 rfl z110 hzv110 ?_; intro wB hB hbB hsB))
              rw [hz110] at hB
              have hc6 := hc5.below hbB hHs
              have him6 := him.below hbB
              have hbm6 := hbm.trans (hbB.mono (by omega))
              obtain ⟨W0, hW0⟩ : ∃ W0, wr.heap.size = W0 := ⟨_, rfl⟩
              rw [hW0] at hB hbB hsB hgm hHs ⊢
              have hr0 : Arr W0 80 0 (sch (blk (padL l) j)) wB := ⟨by omega, by omega, fun i hi => by omega, hB⟩
              clear hc5 him hbm hB hW0 hbB
              go_wp2_with fail
              go_loopw [9] (fun i wr => ∃ k : Nat, k ≤ 80 ∧ i = .int .i64 (k : Int) ∧ Arr W0 80 k (sch (blk (padL l) j)) wr ∧ Below W0 wB wr) (fun i _ => 80 - (intOf i).toNat)
              case atStart => exact ⟨0, by omega, rfl, hr0, Below.refl _ _⟩
              case round =>
                obtain ⟨k, hk, rfl, hr, hbk⟩ := hrel
                clear hr0
                by_cases h80 : k < 80
                · have d80 : decide ((k : Int) < 80) = true := by simp; omega
                  have i80 : (k : Int) < 80 := by omega
                  by_cases h16 : k < 16
                  · have d16 : decide ((k : Int) < 16) = true := by simp; omega
                    have him7 := him6.belowAt hbk hgm
                    have hpa := HPL.out
                    have hx := sch_blk (padL l) j k h16
                    rw [HA.out] at hx
                    obtain ⟨x, hx0⟩ : ∃ x : Nat, a + 4 * k = x := ⟨_, rfl⟩
                    have hx1 : (a : Int) + 4 * (k : Int) = (x : Int) := by omega
                    rw [hx0] at hx
                    have hxq : x + 3 < q := by omega
                    have c0 := byI_cell him7 rfl x (by have := HQ9.out; omega)
                    have c1 := byI_cell him7 rfl (x + 1) (by have := HQ9.out; omega)
                    have c2 := byI_cell him7 rfl (x + 2) (by have := HQ9.out; omega)
                    have c3 := byI_cell him7 rfl (x + 3) (by have := HQ9.out; omega)
                    rw [Nat.zero_add] at c0 c1 c2 c3
                    obtain ⟨y0, e0⟩ : ∃ y, byI (padL l) x = y := ⟨_, rfl⟩
                    obtain ⟨y1, e1⟩ : ∃ y, byI (padL l) (x + 1) = y := ⟨_, rfl⟩
                    obtain ⟨y2, e2⟩ : ∃ y, byI (padL l) (x + 2) = y := ⟨_, rfl⟩
                    obtain ⟨y3, e3⟩ : ∃ y, byI (padL l) (x + 3) = y := ⟨_, rfl⟩
                    rw [e0] at c0 hx; rw [e1] at c1 hx; rw [e2] at c2 hx; rw [e3] at c3 hx
                    obtain ⟨y, hy⟩ := Option.isSome_iff_exists.1 (hr.there k (by omega)).1
                    have hf := (hr.there k (by omega)).2
                    rw [Nat.zero_add] at hy hf
                    have i0 : (x : Int) < q := by omega
                    have i1 : (x : Int) + 1 < q := by omega
                    have i2 : (x : Int) + 2 < q := by omega
                    have i3 : (x : Int) + 3 < q := by omega
                    have HR3 := Lib.hid (hr.push (by omega) (wd y0 y1 y2 y3) hx)
                    have s1 : IntKind.i64.wrap ((x : Int) + 1) = (x : Int) + 1 := by rw [IntKind.wrap_i64]; omega
                    have s2 : IntKind.i64.wrap ((x : Int) + 2) = (x : Int) + 2 := by rw [IntKind.wrap_i64]; omega
                    have s3 : IntKind.i64.wrap ((x : Int) + 3) = (x : Int) + 3 := by rw [IntKind.wrap_i64]; omega
                    have n1 : (0 : Int) ≤ (x : Int) + 1 := by omega
                    have n2 : (0 : Int) ≤ (x : Int) + 2 := by omega
                    have n3 : (0 : Int) ≤ (x : Int) + 3 := by omega
                    have t1 : ((x : Int) + 1).toNat = x + 1 := by omega
                    have t2 : ((x : Int) + 2).toNat = x + 2 := by omega
                    have t3 : ((x : Int) + 3).toNat = x + 3 := by omega
                    have HB3 := Lib.hid (below_setCells hbk W0 (Nat.le_refl _) [wU (wd y0 y1 y2 y3)] k)
                    clear e0 e1 e2 e3 hx hx0 hpa him7 hr hbk
                    go_wp2_with fail
                    go_still_tail 31, (by kernel_rfl)
                    go_wp2
                    clear s1 s2 s3 n1 n2 n3 t1 t2 t3 hx1 i0 i1 i2 i3
                    refine ⟨⟨k + 1, by omega, rfl, HR3.out.drewN 1, HB3.out.drew⟩, ?_⟩
                    simp [intOf]; omega
                  · have d16 : decide ((k : Int) < 16) = false := by simp; omega
                    have hk0 : (0 : Int) ≤ k := by omega
                    have c3 := hr.at_ (k - 3) (by omega)
                    have c8 := hr.at_ (k - 8) (by omega)
                    have c14 := hr.at_ (k - 14) (by omega)
                    have c16 := hr.at_ (k - 16) (by omega)
                    have hx := sch_hi (blk (padL l) j) k h16
                    obtain ⟨x3, h3⟩ : ∃ x, sch (blk (padL l) j) (k - 3) = x := ⟨_, rfl⟩
                    obtain ⟨x8, h8⟩ : ∃ x, sch (blk (padL l) j) (k - 8) = x := ⟨_, rfl⟩
                    obtain ⟨x14, h14⟩ : ∃ x, sch (blk (padL l) j) (k - 14) = x := ⟨_, rfl⟩
                    obtain ⟨x16, h18⟩ : ∃ x, sch (blk (padL l) j) (k - 16) = x := ⟨_, rfl⟩
                    rw [h3] at c3 hx; rw [h8] at c8 hx; rw [h14] at c14 hx; rw [h18] at c16 hx
                    have t3 : IntKind.i64.wrap ((k : Int) - 3) = ((k - 3 : Nat) : Int) := by rw [IntKind.wrap_i64]; omega
                    have t8 : IntKind.i64.wrap ((k : Int) - 8) = ((k - 8 : Nat) : Int) := by rw [IntKind.wrap_i64]; omega
                    have t14 : IntKind.i64.wrap ((k : Int) - 14) = ((k - 14 : Nat) : Int) := by rw [IntKind.wrap_i64]; omega
                    have t16 : IntKind.i64.wrap ((k : Int) - 16) = ((k - 16 : Nat) : Int) := by rw [IntKind.wrap_i64]; omega
                    have l3 : ((k - 3 : Nat) : Int) < 80 := by omega
                    have l8 : ((k - 8 : Nat) : Int) < 80 := by omega
                    have l14 : ((k - 14 : Nat) : Int) < 80 := by omega
                    have l16 : ((k - 16 : Nat) : Int) < 80 := by omega
                    have e3 : k ≠ k - 3 := by omega
                    have e8 : k ≠ k - 8 := by omega
                    have e14 : k ≠ k - 14 := by omega
                    have e16 : k ≠ k - 16 := by omega
                    have cw := left_1 (xor4 x3 x8 x14 x16)
                    obtain ⟨y, hy⟩ := Option.isSome_iff_exists.1 (hr.there k (by omega)).1
                    have hf := (hr.there k (by omega)).2
                    rw [Nat.zero_add] at hy hf
                    have HX := Lib.hid hx
                    have HR := Lib.hid hr
                    have HB := Lib.hid hbk
                    clear hx hr h16 h80 h3 h8 h14 h18 hbk hc6 him6 hbm6
                    go_wp2_with fail
                    have hS : ∀ v : Value, ((wr.setCell ⟨W0, k, none⟩ v).drew).cell? ⟨W0, k - 3, none⟩ = some (wU x3) ∧ ((wr.setCell ⟨W0, k, none⟩ v).drew).cell? ⟨W0, k - 8, none⟩ = some (wU x8) ∧ ((wr.setCell ⟨W0, k, none⟩ v).drew).cell? ⟨W0, k - 14, none⟩ = some (wU x14) ∧ ((wr.setCell ⟨W0, k, none⟩ v).drew).cell? ⟨W0, k - 16, none⟩ = some (wU x16) := fun v => ⟨cell_other e3 c3, cell_other e8 c8, cell_other e14 c14, cell_other e16 c16⟩
                    go_region_held3 (fun w' => w'.cell? ⟨W0, k - 3, none⟩ = some (wU x3) ∧ w'.cell? ⟨W0, k - 8, none⟩ = some (wU x8) ∧ w'.cell? ⟨W0, k - 14, none⟩ = some (wU x14) ∧ w'.cell? ⟨W0, k - 16, none⟩ = some (wU x16))
                      (first | assumption | go_keep | (exact hS _))
                      ((go_at_call 72; refine (cw _).mono ?_; rintro e w2 ⟨rfl, rfl⟩))
                    have hr3 := (HR.out.push (by omega) (rotN 1 (xor4 x3 x8 x14 x16)) HX.out).below (Below.refl _ _).drew (by have := HR.out.lt; simpa using this)
                    have hb3 := (below_setCells HB.out W0 (Nat.le_refl _) [wU (rotN 1 (xor4 x3 x8 x14 x16))] k).drew
                    have HR3 := Lib.hid hr3
                    have HB3 := Lib.hid hb3
                    clear hr3 hb3 hS c3 c8 c14 c16 cw t3 t8 t14 t16 l3 l8 l14 l16
                    go_wp2
                    refine ⟨⟨k + 1, by omega, rfl, HR3.out, HB3.out⟩, ?_⟩
                    simp [intOf]; omega
                · obtain rfl : k = 80 := by omega
                  rw [show ((80 : Nat) : Int) = (80 : Int) from rfl]
                  have him7 := him6.belowAt hbk hgm
                  have hc7 := hc6.below hbk hHs
                  have hbm7 := hbm6.trans (hbk.mono (by omega))
                  have hgs := hbk.size
                  have hv0 := hr.lt
                  obtain ⟨h, hh⟩ : ∃ h, hs (padL l) j = h := ⟨_, rfl⟩
                  rw [hh] at hc7
                  have HH := Lib.hid hh
                  obtain ⟨V0, hV0⟩ : ∃ V0, wr.heap.size = V0 := ⟨_, rfl⟩
                  have hba : Below V0 wr (wr.alloc (.cells #[wU h.a, wU h.b, wU h.c, wU h.d, wU h.e] 108)) := (Below.refl _ _).alloc (by omega) _
                  have xv : C5 V0 (rnds (blk (padL l) j) h 0) (wr.alloc (.cells #[wU h.a, wU h.b, wU h.c, wU h.d, wU h.e] 108)) := by
                    rw [← hV0]
                    constructor <;> simp [go_sem, rnds]
                  have HC7 := Lib.hid (hc7.below hba (by have := hc7.lt; omega))
                  have HR7 := Lib.hid (hr.below hba (by omega))
                  have HI7 := Lib.hid (him7.belowAt hba (by omega))
                  have HB7 := Lib.hid (hbm7.trans (hba.mono (by omega)))
                  obtain ⟨l0, k0, k1, k2, k3, k4, g0, g1, g2, g3, g4⟩ := hc7
                  clear hc6 him6 hbm6 hbk hr him7 hbm7 hh hba g0 g1 g2 g3 g4 l0
                  have HV0 := Lib.hid hV0
                  go_wp2_with fail
                  obtain ⟨wC, hwC⟩ : ∃ wC, wr.alloc (.cells #[wU h.a, wU h.b, wU h.c, wU h.d, wU h.e] 108) = wC := ⟨_, rfl⟩
                  rw [hwC] at xv HC7 HR7 HI7 HB7 ⊢
                  clear k0 k1 k2 k3 k4
                  have hsC : V0 < wC.heap.size := xv.lt
                  have hWV : W0 < V0 := by omega
                  clear hwC hV0
                  go_loopw [12] (fun i wr => ∃ t : Nat, t ≤ 80 ∧ i = .int .i64 (t : Int) ∧ C5 V0 (rnds (blk (padL l) j) h t) wr ∧ Below V0 wC wr) (fun i _ => 80 - (intOf i).toNat)
                  case atStart => exact ⟨0, by omega, rfl, xv, Below.refl _ _⟩
                  case round =>
                    obtain ⟨t, ht, rfl, hc, hbt⟩ := hrel
                    clear xv
                    by_cases h80 : t < 80
                    · have d80 : decide ((t : Int) < 80) = true := by simp; omega
                      have i80 : (t : Int) < 80 := by omega
                      have hwt := (HR7.out.below hbt (by omega)).at_ t h80
                      obtain ⟨x, hx⟩ : ∃ x, sch (blk (padL l) j) t = x := ⟨_, rfl⟩
                      rw [hx] at hwt
                      obtain ⟨q, hq⟩ : ∃ q, rnds (blk (padL l) j) h t = q := ⟨_, rfl⟩
                      rw [hq] at hc
                      obtain ⟨l0, k0, k1, k2, k3, k4, g0, g1, g2, g3, g4⟩ := hc
                      obtain ⟨qa, qb, qc, qd, qe⟩ := q
                      dsimp only at k0 k1 k2 k3 k4
                      have HX := Lib.hid hx
                      have HQ := Lib.hid hq
                      clear hx hq
                      have cx := mix_any t qb qc qd
                      obtain ⟨ff, hff⟩ : ∃ ff, mixF t qb qc qd = ff := ⟨_, rfl⟩
                      obtain ⟨fk, hfk⟩ : ∃ fk, mixK t = fk := ⟨_, rfl⟩
                      rw [hff, hfk] at cx
                      have HFF := Lib.hid hff
                      have HFK := Lib.hid hfk
                      clear hff hfk
                      go_wp2_with fail
                      refine (cx _).mono ?_
                      rintro e w8 ⟨rfl, rfl⟩
                      clear cx
                      go_wp2_with fail
                      go_cut [15] (fun s10 wz => s10 = wU (sumU qa ff qe fk x) ∧ ∃ q, wz = w8.drewN q)
                      case first =>
                        go_quiet (exact Calls.quiet_of_same (left_5 _ _))
                        go_wp2
                        go_meet
                        case rel => exact ⟨by unfold sumU; congr 1; omega, _, rfl⟩
                      case rest =>
                        obtain ⟨rfl, nd, hz⟩ := hcut
                        have hbz : Below V0 wC wc := by rw [hz]; exact below_drewN hbt nd
                        have hcz : C5 V0 ⟨qa, qb, qc, qd, qe⟩ wc := by rw [hz]; exact (C5.mk l0 k0 k1 k2 k3 k4 g0 g1 g2 g3 g4).below (below_drewN (Below.refl _ _) nd) l0
                        clear hz l0 k0 k1 k2 k3 k4 g0 g1 g2 g3 g4 hbt hwt
                        obtain ⟨l0, k0, k1, k2, k3, k4, g0, g1, g2, g3, g4⟩ := hcz
                        dsimp only at k0 k1 k2 k3 k4
                        obtain ⟨y, hy⟩ : ∃ y, sumU qa ff qe fk x = y := ⟨_, rfl⟩
                        rw [hy]
                        have HY := Lib.hid hy
                        clear hy
                        go_wp2_with fail
                        refine wp_region_quiet_store 11 rfl (by kernel_rfl) (by kernel_rfl) (by kernel_rfl) ?_
                        simp only [List.take_succ_cons, List.take_zero, List.cons_append, List.nil_append, idle]
                        repeat (go_big_quiet_step (exact Calls.quiet_of_same (left_30 _ _)))
                        refine wpQuiet_nil ?_
                        intro w9 hw9
                        obtain ⟨nq, hw9⟩ := hw9
                        have hb9 : Below V0 wC w9 := by rw [hw9]; exact below_drewN hbz nq
                        have hc9 : C5 V0 ⟨qa, qb, qc, qd, qe⟩ w9 := by rw [hw9]; exact (C5.mk l0 k0 k1 k2 k3 k4 g0 g1 g2 g3 g4).below (below_drewN (Below.refl _ _) nq) l0
                        clear hw9 l0 k0 k1 k2 k3 k4 g0 g1 g2 g3 g4 hbz
                        have hcn := hc9.set ⟨y, qa, rotN 30 qb, qc, qd⟩
                        have hbn := below_setCells hb9 V0 (Nat.le_refl _) [wU y, wU qa, wU (rotN 30 qb), wU qc, wU qd] 0
                        have HCN := Lib.hid hcn
                        have HBN := Lib.hid hbn
                        obtain ⟨l0, k0, k1, k2, k3, k4, g0, g1, g2, g3, g4⟩ := hc9
                        dsimp only at k0 k1 k2 k3 k4
                        clear hcn hbn hb9
                        go_wp2
                        have hstep : rnds (blk (padL l) j) h (t + 1) = ⟨y, qa, rotN 30 qb, qc, qd⟩ := by
                          rw [rnds, HQ.out, rnd, HFF.out, HFK.out, HX.out, HY.out]
                        refine ⟨⟨t + 1, by omega, rfl, by rw [hstep]; exact HCN.out, HBN.out⟩, ?_⟩
                        simp [intOf]; omega
                    · obtain rfl : t = 80 := by omega
                      rw [show ((80 : Nat) : Int) = (80 : Int) from rfl]
                      obtain ⟨r, hr⟩ : ∃ r, rnds (blk (padL l) j) h 80 = r := ⟨_, rfl⟩
                      rw [hr] at hc
                      have y2 := hc.arr
                      have hlH := HC7.out.lt
                      have hHV : H < V0 := by omega
                      have y0 := (HC7.out.below hbt hHV).arr
                      have yi := HI7.out.belowAt hbt (by omega : gb < V0)
                      have yb := HB7.out.trans (hbt.mono (by omega))
                      have HRR := Lib.hid hr
                      have hst : hs (padL l) (j + 1) = ⟨partF h.get r.get 5 0, partF h.get r.get 5 1, partF h.get r.get 5 2, partF h.get r.get 5 3, partF h.get r.get 5 4⟩ := by
                        rw [hs, HH.out, ← hr]
                        rfl
                      have HST := Lib.hid hst
                      clear hc hr hbt hst
                      go_wp2_with fail
                      go_loopw [16] (fun i wr => ∃ k : Nat, k ≤ 5 ∧ i = .int .i64 (k : Int) ∧ Arr H 5 5 (partF h.get r.get k) wr ∧ Arr V0 5 5 r.get wr ∧ InB wr (some ⟨gb, 0, none⟩) (padL l) ∧ Below H m wr) (fun i _ => 5 - (intOf i).toNat)
                      case atStart => exact ⟨0, by omega, rfl, y0.of_eq (fun i _ => (partF_zero _ _ i).symm), y2, yi, yb⟩
                      case round =>
                        obtain ⟨k, hk, rfl, z0, z2, zi, zb⟩ := hrel
                        clear y0 y2 yi yb
                        by_cases h5 : k < 5
                        · have d5 : decide ((k : Int) < 5) = true := by simp; omega
                          have k5 : (k : Int) < 5 := by omega
                          have e0 := z0.at_ k h5
                          have e2 := z2.at_ k h5
                          have ef := (z0.there k h5).2
                          rw [Nat.zero_add] at ef
                          obtain ⟨p0, hp0⟩ : ∃ x, partF h.get r.get k k = x := ⟨_, rfl⟩
                          obtain ⟨q0, hq0⟩ : ∃ x, r.get k = x := ⟨_, rfl⟩
                          have Z0 := Lib.hid ((z0.put k h5 (addU p0 q0)).of_eq (f' := partF h.get r.get (k + 1)) (fun i _ => by rw [← hp0, ← hq0]; exact partF_put _ _ _ _))
                          have Z2 := Lib.hid (z2.other H (by omega) k (wU (addU p0 q0)))
                          have ZI := Lib.hid (zi.setOther H k (wU (addU p0 q0)) (by omega))
                          have ZB := Lib.hid (below_setCells zb H (Nat.le_refl _) [wU (addU p0 q0)] k)
                          rw [hp0] at e0
                          rw [hq0] at e2
                          clear z0 z2 zi zb hp0 hq0 h5
                          go_wp2_with fail
                          go_still_tail 9, (by kernel_rfl)
                          go_wp2
                          refine ⟨⟨k + 1, by omega, rfl, Z0.out.drewN 1, Z2.out.drewN 1, ZI.out.below (Below.refl _ _).drew, ZB.out.drew⟩, ?_⟩
                          simp [intOf]; omega
                        · obtain rfl : k = 5 := by omega
                          rw [show ((5 : Nat) : Int) = (5 : Int) from rfl]
                          have f0 := z0.c5
                          rw [← HST.out] at f0
                          have hgg : gb < wr.heap.size := by
                            obtain ⟨b, o, e, h1, _⟩ := zi (by have := HQ9.out; omega)
                            cases e
                            exact h1
                          clear z0 z2
                          go_wp2
                          refine ⟨⟨j + 1, hlt, by have := HA.out; congr 1; omega, f0, zi, hgg, zb⟩, ?_⟩
                          have := HA.out
                          simp [intOf]; omega
            · obtain rfl : j = blocks l := by omega
              have d1 : decide (a < q) = false := by have := HPL.out; simp; omega
              obtain ⟨h, hh⟩ : ∃ h, hs (padL l) (blocks l) = h := ⟨_, rfl⟩
              rw [hh] at hc5
              have HH := Lib.hid hh
              have hrz := hbm.size
              have hms := hc5.lt
              have hA4 : wr.there w.heap.size 0 20 := fun j hj => by
                rw [hbm.cell (p := ⟨w.heap.size, 0 + j, none⟩) (by show w.heap.size < H; omega), hbm.frozen (p := ⟨w.heap.size, 0 + j, none⟩) (by show w.heap.size < H; omega)]
                exact hA3 j hj
              have hbw : Below w.heap.size w wr := hbw3.trans (hbm.mono (by omega))
              clear ha hh hA3 hlt hbm him hbw3
              go_wp2_with ((with_reducible refine wpList_alloc_arr (op := ⟨some 17, _, _, _, _, _⟩) rfl 26 rfl z26 hzv26 ?_; intro w6 hA6 hb6 hs6))
              rw [hz26] at hA6
              have hC6 := (hc5.below hb6 hms).arr
              have hr6 : Row wr.heap.size 20 (sumL h 0) w6 := ⟨by omega, by simp [sumL], fun i hi => absurd hi (by simp [sumL]), fun j hj => by have := (hA6 j hj).1; rwa [Nat.zero_add] at this, fun j hj => by have := (hA6 j hj).2; rwa [Nat.zero_add] at this⟩
              have hA7 : w6.there w.heap.size 0 20 := fun j hj => by
                rw [hb6.cell (p := ⟨w.heap.size, 0 + j, none⟩) (by show w.heap.size < wr.heap.size; omega), hb6.frozen (p := ⟨w.heap.size, 0 + j, none⟩) (by show w.heap.size < wr.heap.size; omega)]
                exact hA4 j hj
              have hbw6 := hbw.trans (hb6.mono (by omega))
              clear hA4 hA6 hc5 hbw
              obtain ⟨x, hx⟩ : ∃ x, x = wr := ⟨_, rfl⟩
              subst hx
              go_wp2_with fail
              go_loopw [18] (fun i wr => ∃ k : Nat, k ≤ 20 ∧ i = .int .i64 (k : Int) ∧ Row x.heap.size 20 (sumL h k) wr ∧ Below x.heap.size w6 wr) (fun i _ => (20 - (intOf i).toNat))
              case atStart => exact ⟨0, by omega, rfl, hr6, Below.refl _ _⟩
              case round =>
                obtain ⟨k, hk, rfl, hr, hbx⟩ := hrel
                clear hr6
                have hC7 := hC6.below hbx hms
                by_cases hlt : k < 20
                · have hk4 : k / 4 < 5 := by omega
                  have e1 := hC7.at_ (k / 4) (by omega)
                  have hcx := (hr.there k hlt)
                  have hfx := hr.free k hlt
                  obtain ⟨cx, hcx⟩ := Option.isSome_iff_exists.1 hcx
                  have hr' := hr.set (m := [bigB (h.get (k / 4)) (24 - 8 * (k % 4))]) (by rw [sumL_length]; simp; omega)
                  rw [sumL_length, ← sumL_succ] at hr'
                  have hb' := below_setCells hbx x.heap.size (Nat.le_refl _) (Lib.byteCells [bigB (h.get (k / 4)) (24 - 8 * (k % 4))]) k
                  unfold Lib.byteCells at hr' hb'
                  rw [List.map_cons, List.map_nil, bigB_val] at hr' hb'
                  obtain ⟨y, hy⟩ : ∃ y, h.get (k / 4) = y := ⟨_, rfl⟩
                  rw [hy] at e1 hr' hb'
                  obtain ⟨r, hrr⟩ : ∃ r, k / 4 = r := ⟨_, rfl⟩
                  have q4 : (k : Int) / 4 = (r : Int) := by omega
                  obtain ⟨t, htt⟩ : ∃ t, k % 4 = t := ⟨_, rfl⟩
                  have m4 : (k : Int) % 4 = (t : Int) := by omega
                  rw [hrr] at e1 hk4
                  rw [htt] at hr' hb'
                  obtain ⟨e, hee⟩ : ∃ e, 24 - 8 * t = e := ⟨_, rfl⟩
                  have t4 : t < 4 := by omega
                  have e4 : 24 - 8 * (t : Int) = (e : Int) := by omega
                  rw [hee] at hr' hb'
                  have he24 : e ≤ 24 := by omega
                  have hr5 : (r : Int) < 5 := by omega
                  have hk20 : (k : Int) < 20 := by omega
                  have d20 : decide ((k : Int) < 20) = true := by simp; omega
                  have HR := Lib.hid hr'
                  have HB := Lib.hid hb'
                  clear hr' hb' hr hbx hy hrr htt hee hC7
                  go_wp2
                  refine ⟨⟨k + 1, by omega, rfl, HR.out, HB.out⟩, ?_⟩
                  simp [intOf]; omega
                · obtain rfl : k = 20 := by omega
                  have d20 : decide (((20 : Nat) : Int) < 20) = false := by simp
                  have hn : (sumL h 20).length = 20 := sumL_length _ _
                  have hra : wr.rangeAt x.heap.size 0 (Lib.byteCells (sumL h 20)) := fun j v hv => by
                    have hj : j < 20 := by
                      have := (List.getElem?_eq_some_iff.1 hv).1
                      rwa [Lib.byteCells, List.length_map, hn] at this
                    rw [Nat.zero_add, hr.at_ j (by omega)]
                    simp [Lib.byteCells, hn, hj] at hv
                    rw [hv]
                  have hid : sumID l = ⟨sumL h 20, hn⟩ := by unfold sumID; rw [← HH.out]
                  have HID := Lib.hid hid
                  obtain ⟨cs, hcs⟩ : ∃ cs, Lib.byteCells (sumL h 20) = cs := ⟨_, rfl⟩
                  have hlen : cs.length = 20 := by rw [← hcs, Lib.byteCells, List.length_map, hn]
                  have hone : cs.toArray.all (·.oneCell') = true := all_oneCell_toArray (fun v hv => by
                    rw [← hcs] at hv
                    obtain ⟨_, _, rfl⟩ := List.mem_map.1 hv
                    rfl)
                  have hsz : (Tryd.prog.info? 26).map (·.size) = some cs.length := by rw [hlen]; kernel_rfl
                  have hth : wr.there w.heap.size 0 cs.toArray.size := fun j hj => by
                    have hj' : j < 20 := by rw [List.size_toArray, hlen] at hj; exact hj
                    rw [hbx.cell (p := ⟨w.heap.size, 0 + j, none⟩) (by show w.heap.size < x.heap.size; omega), hbx.frozen (p := ⟨w.heap.size, 0 + j, none⟩) (by show w.heap.size < x.heap.size; omega)]
                    exact hA7 j hj'
                  rw [hcs] at hra
                  have HCS := Lib.hid hcs
                  have HRR := Lib.hid (World.rangeAt_setCells_same wr w.heap.size 0 cs (by simpa using hth))
                  have HBB := Lib.hid (below_setCells (hbw6.trans (hbx.mono (by omega))) w.heap.size (Nat.le_refl _) cs 0)
                  clear hr hbx hcs hid hlen
                  go_wp2_with (first
                    | (with_reducible refine wpList_load_mid rfl 26 (.tmp 17) rfl x.heap.size 0 rfl cs _ hra Tryd.underlying26 rfl hsz ?_)
                    | (with_reducible refine wpList_store_mid rfl 26 (.tmp 2) (.tmp 188) rfl w.heap.size 0 cs.toArray rfl rfl hth (by simpa using hsz) hone ?_))
                  refine ret_arr (t := 2) (ty := 26) (by kernel_rfl) rfl HRR.out Tryd.underlying26 rfl hsz rfl ?_
                  refine ⟨?_, HBB.out⟩
                  rw [HID.out, ← HCS.out]
                  rfl
    · have d1 : ((q : Int) % 64 != 56) = true := by simp; omega
      have HO := Lib.hid ho
      have HQ := Lib.hid hq
      have hql : q ≤ 100064 := by omega
      have HQ2 := Lib.hid hq2
      clear ho hq hq2
      go_wp2_with (at_builtin; refine wpList_append_B _ rfl (.tmp 28) (.tmp 29) rfl (H + 1) _ (padZ l z) rfl (by rw [← HQ.out] ; exact HO.out.below ((Below.refl _ _).alloc (Nat.le_refl _) _)) (by simp; omega) _ 1 1 [0] rfl rfl (InB.of_block _ [0] 5 _ rfl) (by rw [HQ.out]; omega) ?_; intro v' w4 ho4 hb4)
      rw [padZ_succ] at ho4
      obtain ⟨p4, c4, rfl, -, -, -⟩ := ho4.form
      refine ⟨⟨z + 1, by omega, ho4, (hbr.alloc (by omega) _).trans hb4⟩, ?_⟩
      have := HQ2.out
      simp only [lenV, padZ_length]
      omega
end Go.Proofs.Tre
