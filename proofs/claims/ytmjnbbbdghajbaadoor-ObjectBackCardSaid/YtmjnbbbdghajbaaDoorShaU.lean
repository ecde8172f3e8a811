/- sha.Sum of one part. -/
import Derived.Test.YtmjnbbbdghajbaaDoorShaS
namespace Go.Proofs.Tre
open Go Go.RowKit Go.Proofs

def lenV : Value → Nat
  | .slice _ n _ => n
  | _ => 0

theorem slice_lh (W : World) (b o n c a k : Nat) (h1 : a + k ≤ n) (h2 : n ≤ c) (h0 : 0 < k) : (Instr.slice 30 (.slice (some ⟨b, o, none⟩) n c) (some (.int .i64 (a : Int))) (some (.int .i64 ((a : Int) + (k : Int)))) none).run Tryd.prog W = .ok (.slice (some ⟨b, o + a, none⟩) k (c - a)) W := by
  have h30 : Tryd.prog.elem 30 = 5 := by kernel_rfl
  have := run_slice_lh (P := Tryd.prog) W 30 (some ⟨b, o, none⟩) n c (by rw [h30]; exact Tryd.underlying30) .i64 .i64 (a : Int) ((a : Int) + (k : Int)) (by omega) (by omega) (by omega)
  rw [this, h30]
  obtain ⟨i5, hi5, hz1, _, _⟩ := info5
  have e : c ≠ a := by omega
  have e1 : ((a : Int) + (k : Int)).toNat - a = k := by omega
  simp [sizeOf, typeInfo, hi5, hz1, sliced, Addr.add_lit, e, e1]

set_option maxHeartbeats 1000000 in
set_option maxRecDepth 100000 in
theorem Sum_69 (w : World) (g : Nat) (p : Option Addr) (c : Nat) (l : List UInt8) (hg : w.cell? ⟨g, 0, none⟩ = some (.slice p l.length c)) (hi : InB w p l) (h0 : 0 < l.length) (hl : l.length ≤ 100000) :
    Calls Tryd.prog 69 #[.slice (some ⟨g, 0, none⟩) 1 1] w fun e w' => e = .returned (sumID l).v ∧ Below w.heap.size w w' := by
  obtain ⟨z, hz, hzv⟩ := zv26
  have hgl : g < w.heap.size := cell_lt hg
  have cc := fun W h1 h2 => Concat_one W g p c l h1 h2 h0 hl
  have CC := Lib.hid cc
  clear cc
  go_enter Tryd.func69, Tryd.ntmps69
  go_wp2_with ((with_reducible refine wpList_alloc_arr (op := ⟨some 2, _, _, _, _, _⟩) rfl 26 rfl z hzv ?_; intro wA hA hbA hsA))
  have hg1 := hbA.keep hgl hg
  have hi1 := hi.below hbA
  rw [hz] at hA
  refine (CC.out _ hg1 hi1).mono ?_
  rintro e w1 ⟨v, rfl, ho1, hb1⟩
  have hA1 : w1.there w.heap.size 0 20 := fun j hj => by
    rw [hb1.cell (p := ⟨w.heap.size, 0 + j, none⟩) (by show w.heap.size < wA.heap.size; omega), hb1.frozen (p := ⟨w.heap.size, 0 + j, none⟩) (by show w.heap.size < wA.heap.size; omega)]
    exact hA j hj
  rw [hsA] at ho1 hb1
  obtain ⟨p1, c1, rfl, -, -, -⟩ := ho1.form
  have hs1 := hb1.size
  have hb2 : Below w.heap.size w w1 := hbA.trans (hb1.mono (by omega))
  have hiz : ∀ W : World, InB (W.alloc (.cells #[.int .u8 128] 5)) (some ⟨W.heap.size, 0, none⟩) [128] := fun W => InB.of_block W [128] 5 _ rfl
  have HIZ := Lib.hid hiz
  clear hA hbA hg hi hg1 hi1 CC hiz hb1
  go_wp2_with (at_builtin; refine wpList_append_B _ rfl (.tmp 16) (.tmp 17) rfl (w.heap.size + 1) _ l rfl (ho1.below ((Below.refl _ _).alloc (Nat.le_refl _) _)) (by simp; omega) _ 1 1 [128] rfl rfl (HIZ.out _) (by simp; omega) ?_; intro v' w3 ho3 hb3)
  have hb13 : Below (w.heap.size + 1) w1 w3 := ((Below.refl _ _).alloc (by omega) _).trans hb3
  clear ho1 hb3
  go_loopw [3] (fun v wr => ∃ z : Nat, z ≤ zc l.length ∧ Own (w.heap.size + 1) v (padZ l z) wr ∧ Below (w.heap.size + 1) w1 wr) (fun v _ => 200000 - lenV v)
  case atStart => exact ⟨0, Nat.zero_le _, ho3, hb13⟩
  case round =>
    obtain ⟨z, hzz, ho, hbr⟩ := hrel
    clear ho3 hb13
    have hzl := zc_lt l.length
    obtain ⟨p2, c2, rfl, -, -, -⟩ := ho.form
    obtain ⟨q, hq⟩ : ∃ q, (padZ l z).length = q := ⟨_, rfl⟩
    have hq2 : q = l.length + 1 + z := by rw [← hq, padZ_length]
    have hstop := zc_stop l.length z hzz
    rw [hq]
    by_cases hzc : z = zc l.length
    · have d1 : ((q : Int) % 64 != 56) = false := by simp; omega
      subst hzc
      have hqq : (padT l 0).length = q := by rw [padT_length]; omega
      rw [show padZ l (zc l.length) = padT l 0 from by simp [padT, lenB]] at ho
      have HQ := Lib.hid hqq
      clear hstop hzl hq hq2 hqq
      go_wp2_with fail
      go_loopw [3, 5] (fun v i wr => ∃ j : Nat, j ≤ 8 ∧ i = .int .i64 (56 - 8 * (j : Int)) ∧ Own (w.heap.size + 1) v (padT l j) wr ∧ Below (w.heap.size + 1) w1 wr) (fun _ i _ => (intOf i + 8).toNat)
      case atStart => exact ⟨0, by omega, rfl, by rw [← HQ.out] at *; exact ho, hbr⟩
      case round =>
        obtain ⟨j, hj, rfl, ho, hbr⟩ := hrel
        by_cases hlt : j < 8
        · obtain ⟨e, he⟩ : ∃ e : Nat, 56 - 8 * (j : Int) = (e : Int) := ⟨56 - 8 * j, by omega⟩
          rw [he]
          have he2 : e ≤ 56 := by omega
          have hx : ∀ W : World, InB (W.alloc (.cells #[.int .u8 ((l.length : Int) * 8 / 2 ^ e % 256)] 5)) (some ⟨W.heap.size, 0, none⟩) [bigB ((8 * l.length : Nat) : Int) (56 - 8 * j)] := fun W => by
            have := InB.of_block W [bigB ((8 * l.length : Nat) : Int) (56 - 8 * j)] 5 W.heap.size rfl
            unfold Lib.byteCells at this
            rw [List.map_cons, List.map_nil, bigB_val, show 56 - 8 * j = e from by omega, show ((8 * l.length : Nat) : Int) = (l.length : Int) * 8 from by omega] at this
            rw [show 56 - 8 * j = e from by omega, show ((8 * l.length : Nat) : Int) = (l.length : Int) * 8 from by omega]
            exact this
          have hpl := padT_length l j
          have hzl := zc_lt l.length
          have hpm : (padT l j).length ≤ 100100 := by omega
          have hrb := hbr.size
          obtain ⟨p4, c4, rfl, -, -, -⟩ := ho.form
          have HX := Lib.hid hx
          have HE := Lib.hid he
          clear he hx hpl
          go_wp2_with (at_builtin; refine wpList_append_B _ rfl (.tmp 30) (.tmp 35) rfl (w.heap.size + 1) _ (padT l j) rfl (ho.below ((Below.refl _ _).alloc (Nat.le_refl _) _)) (by simp; omega) _ 1 1 [bigB ((8 * l.length : Nat) : Int) (56 - 8 * j)] rfl rfl (HX.out _) (by omega) ?_; intro v' w4 ho4 hb4)
          have he := HE.out
          rw [show padT l j ++ [bigB ((8 * l.length : Nat) : Int) (56 - 8 * j)] = padT l (j + 1) from by rw [padT, padT, lenB_succ, List.append_assoc]] at ho4
          refine ⟨⟨j + 1, by omega, by congr 1; omega, ho4, (hbr.alloc (by omega) _).trans hb4⟩, by simp [intOf]; omega⟩
        · obtain rfl : j = 8 := by omega
          rw [show (56 - 8 * ((8 : Nat) : Int)) = -8 from by omega]
          rw [show padT l 8 = padL l from rfl] at ho
          have hpl := padL_length l
          obtain ⟨p3, c3, rfl, hi3, hc3, -⟩ := ho.form
          have hrs := hbr.size
          obtain ⟨q, hq⟩ : ∃ q, (padL l).length = q := ⟨_, rfl⟩
          rw [hq] at hpl hc3
          have hbl : 1 ≤ blocks l := by unfold blocks zc; omega
          have hbu : blocks l ≤ 2000 := by have := zc_lt l.length; unfold blocks; omega
          obtain ⟨gb, go, rfl, hgb, hcl⟩ := hi3 (by omega)
          have x0 : C5 wr.heap.size hInit (wr.alloc (.cells #[.int .u32 1732584193, .int .u32 4023233417, .int .u32 2562383102, .int .u32 271733878, .int .u32 3285377520] 108)) := by
            constructor <;> simp [go_sem, hInit]
          have hbh : Below (w.heap.size + 1) w1 (wr.alloc (.cells #[.int .u32 1732584193, .int .u32 4023233417, .int .u32 2562383102, .int .u32 271733878, .int .u32 3285377520] 108)) := hbr.alloc (by omega) _
          have hba : Below wr.heap.size wr (wr.alloc (.cells #[.int .u32 1732584193, .int .u32 4023233417, .int .u32 2562383102, .int .u32 271733878, .int .u32 3285377520] 108)) := (Below.refl _ _).alloc (Nat.le_refl _) _
          have HI3 := Lib.hid (show InB wr (some ⟨gb, go, none⟩) (padL l) from hi3)
          have HPL := Lib.hid hpl
          have HQ9 := Lib.hid hq
          rw [hq]
          clear hcl hi3 ho hpl hq
          obtain ⟨m, hm⟩ : ∃ m, m = wr := ⟨_, rfl⟩
          subst hm
          go_wp2_with fail
          go_loopw [7] (fun i wr => ∃ j : Nat, j ≤ blocks l ∧ i = .int .i64 ((64 * j : Nat) : Int) ∧ C5 m.heap.size (hs (padL l) j) wr ∧ Below m.heap.size m wr ∧ Below (w.heap.size + 1) w1 wr) (fun i _ => (64 * blocks l - (intOf i).toNat))
          case atStart => exact ⟨0, by omega, rfl, x0, hba, hbh⟩
          case round =>
            obtain ⟨j, hj, rfl, hc5, hbm, hbr⟩ := hrel
            clear x0 hba hbh
            obtain ⟨a, ha⟩ : ∃ a : Nat, 64 * j = a := ⟨_, rfl⟩
            rw [ha]
            by_cases hlt : j < blocks l
            · have hqa : a + 64 ≤ q := by have := HPL.out; omega
              have hq5 : q ≤ 128000 := by have := HPL.out; omega
              have hw64 : IntKind.i64.wrap ((a : Int) + 64) = (a : Int) + 64 := by rw [IntKind.wrap_i64]; omega
              have d1 : decide (a < q) = true := by simp; omega
              have hsl : ∀ W, (Instr.slice 30 (.slice (some ⟨gb, go, none⟩) q c3) (some (.int .i64 (a : Int))) (some (.int .i64 ((a : Int) + 64))) none).run Tryd.prog W = .ok (.slice (some ⟨gb, go + a, none⟩) 64 (c3 - a)) W := fun W => slice_lh W gb go q c3 a 64 hqa hc3 (by omega)
              have HSS := Lib.hid (show hs (padL l) (j + 1) = mixB (blk (padL l) j) (hs (padL l) j) from rfl)
              have hbk := blk_length l j hlt
              obtain ⟨h, hh⟩ : ∃ h, hs (padL l) j = h := ⟨_, rfl⟩
              have hib : ∀ W, Below m.heap.size m W → InB W (some ⟨gb, go + a, none⟩) (blk (padL l) j) := fun W hW => by
                have := (HI3.out.below hW).sub rfl (64 * j) 64 (by have := HQ9.out; omega) (by omega)
                rw [ha] at this
                unfold blk
                rw [ha]; exact this
              rw [hh] at hc5
              have cm : ∀ W, Below m.heap.size m W → Calls Tryd.prog 105 #[.agg #[wU h.a, wU h.b, wU h.c, wU h.d, wU h.e], .slice (some ⟨gb, go + a, none⟩) 64 (c3 - a)] W fun e w' => e = .returned (mixB (blk (padL l) j) h).v ∧ Below W.heap.size W w' :=
                fun W hW => mixed_any W h gb (go + a) (c3 - a) (blk (padL l) j) hbk (hib W hW) (by omega)
              obtain ⟨h', hh'⟩ : ∃ h', mixB (blk (padL l) j) h = h' := ⟨_, rfl⟩
              simp only [hh'] at cm
              change ∀ W, Below m.heap.size m W → Calls Tryd.prog 105 #[.agg #[wU h.a, wU h.b, wU h.c, wU h.d, wU h.e], .slice (some ⟨gb, go + a, none⟩) 64 (c3 - a)] W fun e w' => e = .returned (.agg #[wU h'.a, wU h'.b, wU h'.c, wU h'.d, wU h'.e]) ∧ Below W.heap.size W w' at cm
              have HA := Lib.hid ha
              have HH := Lib.hid hh
              have HH' := Lib.hid hh'
              have CM := Lib.hid cm
              have HC5 := Lib.hid hc5
              obtain ⟨l0, k0, k1, k2, k3, k4, g0, g1, g2, g3, g4⟩ := hc5
              clear ha hh hh' cm hib hbk
              go_wp2_with fail
              go_still_tail 6, (by kernel_rfl)
              go_wp2_with fail
              refine (CM.out _ (hbm.drew)).mono ?_
              rintro e w5 ⟨rfl, hb5⟩
              have HC6 := Lib.hid ((HC5.out.below (Below.refl _ _).drew l0).below hb5 (by simpa using l0))
              obtain ⟨l0, k0, k1, k2, k3, k4, g0, g1, g2, g3, g4⟩ := HC6.out
              have hcn := HC6.out.set h'
              have hws := hbm.size
              have hb5' : Below wr.heap.size wr w5 := (Below.refl _ _).drew.trans (hb5.mono (by simp))
              have hbm5 := below_setCells (hbm.trans (hb5'.mono hws)) m.heap.size (Nat.le_refl _) [wU h'.a, wU h'.b, wU h'.c, wU h'.d, wU h'.e] 0
              have hbr5 := below_setCells (hbr.trans (hb5'.mono (by omega))) m.heap.size (by omega) [wU h'.a, wU h'.b, wU h'.c, wU h'.d, wU h'.e] 0
              have HCN := Lib.hid hcn
              have HBM := Lib.hid hbm5
              have HBR := Lib.hid hbr5
              clear HC5 hcn hbm5 hbr5 hb5' hb5 hbm hbr
              go_wp2
              refine ⟨⟨j + 1, hlt, by have := HA.out; congr 1; omega, by rw [HSS.out, HH.out, HH'.out]; exact HCN.out, HBM.out, HBR.out⟩, ?_⟩
              have := HA.out
              simp [intOf]; omega
            · obtain rfl : j = blocks l := by omega
              have d1 : decide (a < q) = false := by have := HPL.out; simp; omega
              obtain ⟨h, hh⟩ : ∃ h, hs (padL l) (blocks l) = h := ⟨_, rfl⟩
              rw [hh] at hc5
              have HH := Lib.hid hh
              have hrz := hbr.size
              have hA2 : wr.there w.heap.size 0 20 := fun j hj => by
                rw [hbr.cell (p := ⟨w.heap.size, 0 + j, none⟩) (by show w.heap.size < w.heap.size + 1; omega), hbr.frozen (p := ⟨w.heap.size, 0 + j, none⟩) (by show w.heap.size < w.heap.size + 1; omega)]
                exact hA1 j hj
              have hbw : Below w.heap.size w wr := hb2.trans (hbr.mono (by omega))
              clear ha hh hA1 hlt hbr
              go_wp2_with ((with_reducible refine wpList_alloc_arr (op := ⟨some 8, _, _, _, _, _⟩) rfl 26 rfl z hzv ?_; intro w6 hA6 hb6 hs6))
              rw [hz] at hA6
              have hms := hc5.lt
              have hC6 := (hc5.below hb6 hms).arr
              have hr6 : Row wr.heap.size 20 (sumL h 0) w6 := ⟨by omega, by simp [sumL], fun i hi => absurd hi (by simp [sumL]), fun j hj => by have := (hA6 j hj).1; rwa [Nat.zero_add] at this, fun j hj => by have := (hA6 j hj).2; rwa [Nat.zero_add] at this⟩
              have hA7 : w6.there w.heap.size 0 20 := fun j hj => by
                rw [hb6.cell (p := ⟨w.heap.size, 0 + j, none⟩) (by show w.heap.size < wr.heap.size; omega), hb6.frozen (p := ⟨w.heap.size, 0 + j, none⟩) (by show w.heap.size < wr.heap.size; omega)]
                exact hA2 j hj
              have hbw6 := hbw.trans (hb6.mono (by omega))
              clear hA2 hA6 hc5 hbw hbm
              obtain ⟨x, hx⟩ : ∃ x, x = wr := ⟨_, rfl⟩
              subst hx
              go_loopw [51] (fun i wr => ∃ k : Nat, k ≤ 20 ∧ i = .int .i64 (k : Int) ∧ Row x.heap.size 20 (sumL h k) wr ∧ Below x.heap.size w6 wr) (fun i _ => (20 - (intOf i).toNat))
              case atStart => exact ⟨0, by omega, rfl, hr6, Below.refl _ _⟩
              case round =>
                obtain ⟨k, hk, rfl, hr, hbx⟩ := hrel
                clear hr6
                have hC7 := hC6.below hbx hms
                by_cases hlt : k < 20
                · have hk4 : k / 4 < 5 := by omega
                  have e1 := hC7.at_ (k / 4) (by omega)
                  have hcx := (hr.there k hlt)
                  have hfx := hr.free k hlt
                  obtain ⟨cx, hcx⟩ := Option.isSome_iff_exists.1 hcx
                  have hr' := hr.set (m := [bigB (h.get (k / 4)) (24 - 8 * (k % 4))]) (by rw [sumL_length]; simp; omega)
                  rw [sumL_length, ← sumL_succ] at hr'
                  have hb' := below_setCells hbx x.heap.size (Nat.le_refl _) (Lib.byteCells [bigB (h.get (k / 4)) (24 - 8 * (k % 4))]) k
                  unfold Lib.byteCells at hr' hb'
                  rw [List.map_cons, List.map_nil, bigB_val] at hr' hb'
                  obtain ⟨y, hy⟩ : ∃ y, h.get (k / 4) = y := ⟨_, rfl⟩
                  rw [hy] at e1 hr' hb'
                  obtain ⟨r, hrr⟩ : ∃ r, k / 4 = r := ⟨_, rfl⟩
                  have q4 : (k : Int) / 4 = (r : Int) := by omega
                  obtain ⟨t, htt⟩ : ∃ t, k % 4 = t := ⟨_, rfl⟩
                  have m4 : (k : Int) % 4 = (t : Int) := by omega
                  rw [hrr] at e1 hk4
                  rw [htt] at hr' hb'
                  obtain ⟨e, hee⟩ : ∃ e, 24 - 8 * t = e := ⟨_, rfl⟩
                  have t4 : t < 4 := by omega
                  have e4 : 24 - 8 * (t : Int) = (e : Int) := by omega
                  rw [hee] at hr' hb'
                  have he24 : e ≤ 24 := by omega
                  have hr5 : (r : Int) < 5 := by omega
                  have hk20 : (k : Int) < 20 := by omega
                  have d20 : decide ((k : Int) < 20) = true := by simp; omega
                  have HR := Lib.hid hr'
                  have HB := Lib.hid hb'
                  clear hr' hb' hr hbx hy hrr htt hee hC7
                  go_wp2
                  refine ⟨⟨k + 1, by omega, rfl, HR.out, HB.out⟩, ?_⟩
                  simp [intOf]; omega
                · obtain rfl : k = 20 := by omega
                  have d20 : decide (((20 : Nat) : Int) < 20) = false := by simp
                  have hn : (sumL h 20).length = 20 := sumL_length _ _
                  have hra : wr.rangeAt x.heap.size 0 (Lib.byteCells (sumL h 20)) := fun j v hv => by
                    have hj : j < 20 := by
                      have := (List.getElem?_eq_some_iff.1 hv).1
                      rwa [Lib.byteCells, List.length_map, hn] at this
                    rw [Nat.zero_add, hr.at_ j (by omega)]
                    simp [Lib.byteCells, hn, hj] at hv
                    rw [hv]
                  have hid : sumID l = ⟨sumL h 20, hn⟩ := by unfold sumID; rw [← HH.out]
                  have HID := Lib.hid hid
                  obtain ⟨cs, hcs⟩ : ∃ cs, Lib.byteCells (sumL h 20) = cs := ⟨_, rfl⟩
                  have hlen : cs.length = 20 := by rw [← hcs, Lib.byteCells, List.length_map, hn]
                  have hone : cs.toArray.all (·.oneCell') = true := all_oneCell_toArray (fun v hv => by
                    rw [← hcs] at hv
                    obtain ⟨_, _, rfl⟩ := List.mem_map.1 hv
                    rfl)
                  have hsz : (Tryd.prog.info? 26).map (·.size) = some cs.length := by rw [hlen]; kernel_rfl
                  have hth : wr.there w.heap.size 0 cs.toArray.size := fun j hj => by
                    have hj' : j < 20 := by rw [List.size_toArray, hlen] at hj; exact hj
                    rw [hbx.cell (p := ⟨w.heap.size, 0 + j, none⟩) (by show w.heap.size < x.heap.size; omega), hbx.frozen (p := ⟨w.heap.size, 0 + j, none⟩) (by show w.heap.size < x.heap.size; omega)]
                    exact hA7 j hj'
                  rw [hcs] at hra
                  have HCS := Lib.hid hcs
                  have HRR := Lib.hid (World.rangeAt_setCells_same wr w.heap.size 0 cs (by simpa using hth))
                  have HBB := Lib.hid (below_setCells (hbw6.trans (hbx.mono (by omega))) w.heap.size (Nat.le_refl _) cs 0)
                  clear hr hbx hcs hid hlen
                  go_wp2_with (first
                    | (with_reducible refine wpList_load_mid rfl 26 (.tmp 8) rfl x.heap.size 0 rfl cs _ hra Tryd.underlying26 rfl hsz ?_)
                    | (with_reducible refine wpList_store_mid rfl 26 (.tmp 2) (.tmp 67) rfl w.heap.size 0 cs.toArray rfl rfl hth (by simpa using hsz) hone ?_))
                  refine ret_arr (t := 2) (ty := 26) (by kernel_rfl) rfl HRR.out Tryd.underlying26 rfl hsz rfl ?_
                  refine ⟨?_, HBB.out⟩
                  rw [HID.out, ← HCS.out]
                  rfl
    · have d1 : ((q : Int) % 64 != 56) = true := by simp; omega
      have hrb := hbr.size
      have HO := Lib.hid ho
      have HQ := Lib.hid hq
      have hql : q ≤ 100064 := by omega
      have HQ2 := Lib.hid hq2
      clear ho hq hq2
      go_wp2_with (at_builtin; refine wpList_append_B _ rfl (.tmp 23) (.tmp 24) rfl (w.heap.size + 1) _ (padZ l z) rfl (by rw [← HQ.out] ; exact HO.out.below ((Below.refl _ _).alloc (Nat.le_refl _) _)) (by simp; omega) _ 1 1 [0] rfl rfl (InB.of_block _ [0] 5 _ rfl) (by rw [HQ.out]; omega) ?_; intro v' w4 ho4 hb4)
      rw [padZ_succ] at ho4
      obtain ⟨p4, c4, rfl, -, -, -⟩ := ho4.form
      refine ⟨⟨z + 1, by omega, ho4, (hbr.alloc (by omega) _).trans hb4⟩, ?_⟩
      have := HQ2.out
      simp only [lenV, padZ_length]
      omega
end Go.Proofs.Tre
