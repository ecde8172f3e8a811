/- SHA-1: one block mixed in. -/
import Derived.Test.YtmjnbbbdghajbaaDoorShaW
import Derived.Test.YtmjnbbbdghajbaaDoorQuist
import Derived.Deep.CutBlock
namespace Go.Proofs.Tre
open Go Go.RowKit Go.Proofs

structure H5 where
  a : Int
  b : Int
  c : Int
  d : Int
  e : Int
def H5.v (h : H5) : Value := .agg #[wU h.a, wU h.b, wU h.c, wU h.d, wU h.e]

def addU (x y : Int) : Int := (x + y) % 4294967296
def sumU (a f e k w : Int) : Int := (rotN 5 a + f + e + k + w) % 4294967296
def rnd (m : List UInt8) (t : Nat) (h : H5) : H5 := ⟨sumU h.a (mixF t h.b h.c h.d) h.e (mixK t) (sch m t), h.a, rotN 30 h.b, h.c, h.d⟩
def rnds (m : List UInt8) (h : H5) : Nat → H5
  | 0 => h
  | t + 1 => rnd m t (rnds m h t)
def mixB (m : List UInt8) (h : H5) : H5 :=
  ⟨addU h.a (rnds m h 80).a, addU h.b (rnds m h 80).b, addU h.c (rnds m h 80).c, addU h.d (rnds m h 80).d, addU h.e (rnds m h 80).e⟩

/-- five numbers in memory -/
structure C5 (g : Nat) (h : H5) (w : World) : Prop where
  lt : g < w.heap.size
  c0 : w.cell? ⟨g, 0, none⟩ = some (wU h.a)
  c1 : w.cell? ⟨g, 1, none⟩ = some (wU h.b)
  c2 : w.cell? ⟨g, 2, none⟩ = some (wU h.c)
  c3 : w.cell? ⟨g, 3, none⟩ = some (wU h.d)
  c4 : w.cell? ⟨g, 4, none⟩ = some (wU h.e)
  f0 : w.frozen? ⟨g, 0, none⟩ = false
  f1 : w.frozen? ⟨g, 1, none⟩ = false
  f2 : w.frozen? ⟨g, 2, none⟩ = false
  f3 : w.frozen? ⟨g, 3, none⟩ = false
  f4 : w.frozen? ⟨g, 4, none⟩ = false

theorem C5.below {g B : Nat} {h : H5} {w w' : World} (hc : C5 g h w) (hb : Below B w w') (hg : g < B) : C5 g h w' :=
  ⟨Nat.lt_of_lt_of_le hc.lt hb.size, hb.keep hg hc.c0, hb.keep hg hc.c1, hb.keep hg hc.c2, hb.keep hg hc.c3, hb.keep hg hc.c4,
   by rw [hb.frozen (p := ⟨g, 0, none⟩) hg]; exact hc.f0, by rw [hb.frozen (p := ⟨g, 1, none⟩) hg]; exact hc.f1, by rw [hb.frozen (p := ⟨g, 2, none⟩) hg]; exact hc.f2, by rw [hb.frozen (p := ⟨g, 3, none⟩) hg]; exact hc.f3, by rw [hb.frozen (p := ⟨g, 4, none⟩) hg]; exact hc.f4⟩

theorem index_arr (W : World) (f : Nat → Int) (k : Nat) (hk : k < 80) : (Instr.index 110 (arrV 80 f) (.int .i64 (k : Int))).run Tryd.prog W = .ok (wU (f k)) W := by
  have h107 : (Tryd.prog.info? 107).map (·.size) = some 1 := by kernel_rfl
  have ha : (isAgg 107).run Tryd.prog W = .ok false W := by kernel_rfl
  have h1 : (sizeOf 107).run Tryd.prog W = .ok 1 W := by kernel_rfl
  have hk' : (k : Int) < 80 := by omega
  simp [Instr.index, arrV, asIntOf, run_underlying un110, h1, part, hk]

theorem C5.set {g : Nat} {h : H5} {w : World} (hc : C5 g h w) (h' : H5) : C5 g h' (((((w.setCell ⟨g, 0, none⟩ (wU h'.a)).setCell ⟨g, 1, none⟩ (wU h'.b)).setCell ⟨g, 2, none⟩ (wU h'.c)).setCell ⟨g, 3, none⟩ (wU h'.d)).setCell ⟨g, 4, none⟩ (wU h'.e)) := by
  obtain ⟨l0, k0, k1, k2, k3, k4, g0, g1, g2, g3, g4⟩ := hc
  have hs : ∀ j, j < [wU h'.a, wU h'.b, wU h'.c, wU h'.d, wU h'.e].length → (w.cell? ⟨g, 0 + j, none⟩).isSome = true := fun j hj => by
    rw [Nat.zero_add]
    obtain rfl | rfl | rfl | rfl | rfl : j = 0 ∨ j = 1 ∨ j = 2 ∨ j = 3 ∨ j = 4 := by simp at hj; omega
    · rw [k0]; rfl
    · rw [k1]; rfl
    · rw [k2]; rfl
    · rw [k3]; rfl
    · rw [k4]; rfl
  have e := World.cell?_setCells_in g [wU h'.a, wU h'.b, wU h'.c, wU h'.d, wU h'.e] 0 w hs
  have f := fun o => World.frozen?_setCells g [wU h'.a, wU h'.b, wU h'.c, wU h'.d, wU h'.e] 0 w ⟨g, o, none⟩
  have e0 := e 0 (by simp)
  have e1 := e 1 (by simp)
  have e2 := e 2 (by simp)
  have e3 := e 3 (by simp)
  have e4 := e 4 (by simp)
  simp only [World.setCells, Nat.zero_add, Nat.reduceAdd, List.getElem_cons_zero, List.getElem_cons_succ] at e0 e1 e2 e3 e4 f
  exact ⟨by simpa using l0, e0, e1, e2, e3, e4, (f 0).trans g0, (f 1).trans g1, (f 2).trans g2, (f 3).trans g3, (f 4).trans g4⟩

def H5.get (h : H5) : Nat → Int
  | 0 => h.a
  | 1 => h.b
  | 2 => h.c
  | 3 => h.d
  | _ => h.e
def partF (h q : Nat → Int) (k i : Nat) : Int := if i < k then addU (h i) (q i) else h i

theorem C5.arr {g : Nat} {h : H5} {w : World} (hc : C5 g h w) : Arr g 5 5 h.get w := by
  obtain ⟨l0, k0, k1, k2, k3, k4, g0, g1, g2, g3, g4⟩ := hc
  refine ⟨l0, Nat.le_refl _, fun i hi => ?_, fun j hj => ?_⟩
  · obtain rfl | rfl | rfl | rfl | rfl : i = 0 ∨ i = 1 ∨ i = 2 ∨ i = 3 ∨ i = 4 := by omega
    · exact k0
    · exact k1
    · exact k2
    · exact k3
    · exact k4
  · rw [Nat.zero_add]
    obtain rfl | rfl | rfl | rfl | rfl : j = 0 ∨ j = 1 ∨ j = 2 ∨ j = 3 ∨ j = 4 := by omega
    · exact ⟨by rw [k0]; rfl, g0⟩
    · exact ⟨by rw [k1]; rfl, g1⟩
    · exact ⟨by rw [k2]; rfl, g2⟩
    · exact ⟨by rw [k3]; rfl, g3⟩
    · exact ⟨by rw [k4]; rfl, g4⟩

theorem Arr.of_eq {g n k : Nat} {f f' : Nat → Int} {w : World} (h : Arr g n k f w) (he : ∀ i, i < k → f i = f' i) : Arr g n k f' w :=
  ⟨h.lt, h.le, fun i hi => by rw [← he i hi]; exact h.at_ i hi, h.there⟩

theorem Arr.c5 {g : Nat} {f : Nat → Int} {w : World} (h : Arr g 5 5 f w) : C5 g ⟨f 0, f 1, f 2, f 3, f 4⟩ w := by
  have ht := h.there
  have hf : ∀ j, j < 5 → w.frozen? ⟨g, j, none⟩ = false := fun j hj => by
    have := (ht j hj).2
    rwa [Nat.zero_add] at this
  exact ⟨h.lt, h.at_ 0 (by omega), h.at_ 1 (by omega), h.at_ 2 (by omega), h.at_ 3 (by omega), h.at_ 4 (by omega), hf 0 (by omega), hf 1 (by omega), hf 2 (by omega), hf 3 (by omega), hf 4 (by omega)⟩

theorem Arr.put {g n : Nat} {f : Nat → Int} {w : World} (h : Arr g n n f w) (j : Nat) (hj : j < n) (x : Int) : Arr g n n (fun i => if i = j then x else f i) (w.setCell ⟨g, j, none⟩ (wU x)) := by
  have ht := World.there_setCells h.there g j [wU x]
  have hsome : ∀ i, i < [wU x].length → (w.cell? ⟨g, j + i, none⟩).isSome = true := fun i hi => by
    have := (h.there (j + i) (by simp at hi; omega)).1
    rwa [Nat.zero_add] at this
  have e := World.cell?_setCells_in g [wU x] j w hsome 0 (by simp)
  simp only [World.setCells, Nat.add_zero, List.getElem_cons_zero] at e ht
  refine ⟨by simpa using h.lt, Nat.le_refl _, fun i hi => ?_, ht⟩
  by_cases hik : i = j
  · subst hik; rw [if_pos rfl]; exact e
  · rw [if_neg hik]
    exact (World.cell?_setCell_other _ _ _ _ (fun e => hik (by cases e; rfl))).trans (h.at_ i hi)

theorem partF_zero (h q : Nat → Int) (i : Nat) : partF h q 0 i = h i := by simp [partF]
theorem partF_put (h q : Nat → Int) (k i : Nat) : (if i = k then addU (partF h q k k) (q k) else partF h q k i) = partF h q (k + 1) i := by
  unfold partF
  by_cases e : i = k
  · subst e; simp
  · rw [if_neg e]
    by_cases hl : i < k
    · rw [if_pos hl, if_pos (by omega)]
    · rw [if_neg hl, if_neg (by omega)]
theorem partF_five (m : List UInt8) (h : H5) : (⟨partF h.get (rnds m h 80).get 5 0, partF h.get (rnds m h 80).get 5 1, partF h.get (rnds m h 80).get 5 2, partF h.get (rnds m h 80).get 5 3, partF h.get (rnds m h 80).get 5 4⟩ : H5) = mixB m h := rfl

set_option maxHeartbeats 1000000 in
set_option maxRecDepth 100000 in
theorem mixed_any (w : World) (h : H5) (b o c : Nat) (m : List UInt8) (hm : m.length = 64) (hi : InB w (some ⟨b, o, none⟩) m) (hc : 64 ≤ c) :
    Calls Tryd.prog 105 #[h.v, .slice (some ⟨b, o, none⟩) 64 c] w fun e w' => e = .returned (mixB m h).v ∧ Below w.heap.size w w' := by
  obtain ⟨a0, b0, c0, d0, e0⟩ := h
  have cs := fun W hW => schedule_any W b o c m hm hW hc
  have HS := Lib.hid cs
  clear cs
  show Calls Tryd.prog 105 #[.agg #[wU a0, wU b0, wU c0, wU d0, wU e0], .slice (some ⟨b, o, none⟩) 64 c] w _
  have hb3 : Below w.heap.size w (((w.alloc (.cells #[wU a0, wU b0, wU c0, wU d0, wU e0] 108)).alloc (.cells #[wU 0, wU 0, wU 0, wU 0, wU 0] 108)).alloc (.cells #[wU a0, wU b0, wU c0, wU d0, wU e0] 108)) :=
    (((Below.refl _ _).alloc (Nat.le_refl _) _).alloc (by simp) _).alloc (by simp; omega) _
  have x0 : C5 w.heap.size ⟨a0, b0, c0, d0, e0⟩ (((w.alloc (.cells #[wU a0, wU b0, wU c0, wU d0, wU e0] 108)).alloc (.cells #[wU 0, wU 0, wU 0, wU 0, wU 0] 108)).alloc (.cells #[wU a0, wU b0, wU c0, wU d0, wU e0] 108)) := by
    constructor <;> simp [go_sem]
  have x1 : C5 (w.heap.size + 1) ⟨0, 0, 0, 0, 0⟩ (((w.alloc (.cells #[wU a0, wU b0, wU c0, wU d0, wU e0] 108)).alloc (.cells #[wU 0, wU 0, wU 0, wU 0, wU 0] 108)).alloc (.cells #[wU a0, wU b0, wU c0, wU d0, wU e0] 108)) := by
    constructor <;> simp [go_sem]
  have x2 : C5 (w.heap.size + 2) ⟨a0, b0, c0, d0, e0⟩ (((w.alloc (.cells #[wU a0, wU b0, wU c0, wU d0, wU e0] 108)).alloc (.cells #[wU 0, wU 0, wU 0, wU 0, wU 0] 108)).alloc (.cells #[wU a0, wU b0, wU c0, wU d0, wU e0] 108)) := by
    constructor <;> simp [go_sem]
  have cw := HS.out _ (hi.below hb3)
  go_enter Tryd.func105, Tryd.ntmps105
  go_wp2_with fail
  refine cw.mono ?_
  rintro e w1 ⟨rfl, hb1⟩
  have hs1 := hb1.size
  simp only [World.size_alloc] at hs1
  have y0 := x0.below hb1 (by simp; omega)
  have y1 := x1.below hb1 (by simp)
  have y2 := x2.below hb1 (by simp)
  have hbw := hb3.trans (hb1.mono (by simp; omega))
  obtain ⟨h, hh⟩ : ∃ h : H5, (⟨a0, b0, c0, d0, e0⟩ : H5) = h := ⟨_, rfl⟩
  rw [hh] at y0 y2
  have HH := Lib.hid hh
  clear x0 x1 x2 hb3 hb1 cw HS hi hc hm hh
  go_wp2_with fail
  go_loopw [15] (fun i wr => ∃ k : Nat, k ≤ 80 ∧ i = .int .i64 (k : Int) ∧ C5 (w.heap.size + 1 + 1) (rnds m h k) wr ∧ Below (w.heap.size + 1 + 1) w1 wr)
    (fun i _ => 80 - (intOf i).toNat)
  case atStart => exact ⟨0, by omega, rfl, y2, Below.refl _ _⟩
  case round =>
    obtain ⟨k, hk, rfl, hc, hbr⟩ := hrel
    clear y2
    by_cases h80 : k < 80
    · have d80 : decide ((k : Int) < 80) = true := by simp; omega
      have hix := fun W => index_arr W (sch m) k h80
      obtain ⟨x, hx⟩ : ∃ x, sch m k = x := ⟨_, rfl⟩
      simp only [hx] at hix
      obtain ⟨q, hq⟩ : ∃ q, rnds m h k = q := ⟨_, rfl⟩
      rw [hq] at hc
      obtain ⟨l0, k0, k1, k2, k3, k4, g0, g1, g2, g3, g4⟩ := hc
      obtain ⟨qa, qb, qc, qd, qe⟩ := q
      dsimp only at k0 k1 k2 k3 k4
      have HX := Lib.hid hx
      have HQ := Lib.hid hq
      clear hx hq
      go_upto_block 2 with fail
      go_cut [8, 9] (fun f kk wc => f = wU (mixF k qb qc qd) ∧ kk = wU (mixK k) ∧ wc = wr)
      case first =>
        have hch := ch_or qb qc qd
        have hma := ma_or qb qc qd
        by_cases h20 : k < 20
        · have e0 : ((k : Int) / 20 == 0) = true := by simp; omega
          have ef : mixF k qb qc qd = chI qb qc qd := by simp [mixF, h20]
          have ek : mixK k = 1518500249 := by simp [mixK, h20]
          have EF := Lib.hid ef
          have EK := Lib.hid ek
          clear ef ek h20
          go_wp2
          go_meet
          case rel => exact ⟨by rw [EF.out], by rw [EK.out], rfl⟩
        by_cases h40 : k < 40
        · have e0 : ((k : Int) / 20 == 0) = false := by simp; omega
          have e1 : ((k : Int) / 20 == 1) = true := by simp; omega
          have ef : mixF k qb qc qd = paI qb qc qd := by simp [mixF, h20, h40]
          have ek : mixK k = 1859775393 := by simp [mixK, h20, h40]
          have EF := Lib.hid ef
          have EK := Lib.hid ek
          clear ef ek h20 h40
          go_wp2
          go_meet
          case rel => exact ⟨by rw [EF.out]; rfl, by rw [EK.out], rfl⟩
        by_cases h60 : k < 60
        · have e0 : ((k : Int) / 20 == 0) = false := by simp; omega
          have e1 : ((k : Int) / 20 == 1) = false := by simp; omega
          have e2 : ((k : Int) / 20 == 2) = true := by simp; omega
          have ef : mixF k qb qc qd = maI qb qc qd := by simp [mixF, h20, h40, h60]
          have ek : mixK k = 2400959708 := by simp [mixK, h20, h40, h60]
          have EF := Lib.hid ef
          have EK := Lib.hid ek
          clear ef ek h20 h40 h60
          go_wp2
          go_meet
          case rel => exact ⟨by rw [EF.out], by rw [EK.out], rfl⟩
        · have e0 : ((k : Int) / 20 == 0) = false := by simp; omega
          have e1 : ((k : Int) / 20 == 1) = false := by simp; omega
          have e2 : ((k : Int) / 20 == 2) = false := by simp; omega
          have ef : mixF k qb qc qd = paI qb qc qd := by simp [mixF, h20, h40, h60]
          have ek : mixK k = 3395469782 := by simp [mixK, h20, h40, h60]
          have EF := Lib.hid ef
          have EK := Lib.hid ek
          clear ef ek h20 h40 h60
          go_wp2
          go_meet
          case rel => exact ⟨by rw [EF.out]; rfl, by rw [EK.out], rfl⟩
      case rest =>
        obtain ⟨rfl, rfl, rfl⟩ := hcut
        obtain ⟨ff, hff⟩ : ∃ ff, mixF k qb qc qd = ff := ⟨_, rfl⟩
        obtain ⟨fk, hfk⟩ : ∃ fk, mixK k = fk := ⟨_, rfl⟩
        rw [hff, hfk]
        have HFF := Lib.hid hff
        have HFK := Lib.hid hfk
        clear hff hfk
        go_wp2_with fail
        go_cut [10] (fun s10 wz => s10 = wU (sumU qa ff qe fk x) ∧ ∃ q, wz = wc.drewN q)
        case first =>
          go_quiet (exact Calls.quiet_of_same (rot_5 _ _))
          go_wp2
          go_meet
          case rel => exact ⟨by unfold sumU; congr 1; omega, _, rfl⟩
        case rest =>
          obtain ⟨rfl, nd, hz⟩ := hcut
          have hbz : Below (w.heap.size + 1 + 1) w1 wc := by rw [hz]; exact below_drewN hbr nd
          have hcz : C5 (w.heap.size + 1 + 1) ⟨qa, qb, qc, qd, qe⟩ wc := by rw [hz]; exact (C5.mk l0 k0 k1 k2 k3 k4 g0 g1 g2 g3 g4).below (below_drewN (Below.refl _ _) nd) l0
          clear hz l0 k0 k1 k2 k3 k4 g0 g1 g2 g3 g4 hbr
          obtain ⟨l0, k0, k1, k2, k3, k4, g0, g1, g2, g3, g4⟩ := hcz
          dsimp only at k0 k1 k2 k3 k4
          obtain ⟨y, hy⟩ : ∃ y, sumU qa ff qe fk x = y := ⟨_, rfl⟩
          rw [hy]
          have HY := Lib.hid hy
          clear hy
          go_wp2_with fail
          refine wp_region_quiet_store 11 rfl (by kernel_rfl) (by kernel_rfl) (by kernel_rfl) ?_
          simp only [List.take_succ_cons, List.take_zero, List.cons_append, List.nil_append, idle]
          repeat (go_big_quiet_step (exact Calls.quiet_of_same (rot_30 _ _)))
          refine wpQuiet_nil ?_
          intro w9 hw9
          obtain ⟨nq, hw9⟩ := hw9
          have hb9 : Below (w.heap.size + 1 + 1) w1 w9 := by rw [hw9]; exact below_drewN hbz nq
          have hc9 : C5 (w.heap.size + 1 + 1) ⟨qa, qb, qc, qd, qe⟩ w9 := by rw [hw9]; exact (C5.mk l0 k0 k1 k2 k3 k4 g0 g1 g2 g3 g4).below (below_drewN (Below.refl _ _) nq) l0
          clear hw9 l0 k0 k1 k2 k3 k4 g0 g1 g2 g3 g4 hbz
          have hcn := hc9.set ⟨y, qa, rotN 30 qb, qc, qd⟩
          have hbn := below_setCells hb9 (w.heap.size + 1 + 1) (Nat.le_refl _) [wU y, wU qa, wU (rotN 30 qb), wU qc, wU qd] 0
          have HCN := Lib.hid hcn
          have HBN := Lib.hid hbn
          obtain ⟨l0, k0, k1, k2, k3, k4, g0, g1, g2, g3, g4⟩ := hc9
          dsimp only at k0 k1 k2 k3 k4
          clear hcn hbn hb9
          go_wp2
          have hstep : rnds m h (k + 1) = ⟨y, qa, rotN 30 qb, qc, qd⟩ := by
            rw [rnds, HQ.out, rnd, HFF.out, HFK.out, HX.out, HY.out]
          refine ⟨⟨k + 1, by omega, rfl, by rw [hstep]; exact HCN.out, HBN.out⟩, ?_⟩
          simp [intOf]; omega
    · obtain rfl : k = 80 := by omega
      have x0 := (y0.below hbr (by omega)).arr
      have x1 := y1.below hbr (by omega)
      obtain ⟨q, hq⟩ : ∃ q, rnds m h 80 = q := ⟨_, rfl⟩
      rw [hq] at hc
      have x2 := hc.arr
      have HQ := Lib.hid hq
      rw [show ((80 : Nat) : Int) = (80 : Int) from rfl]
      have hbz : Below w.heap.size w wr := hbw.trans (hbr.mono (by omega))
      clear hc y0 y1 hq hbr hbw hs1
      go_wp2_with fail
      go_loopw [96] (fun i wz => ∃ k : Nat, k ≤ 5 ∧ i = .int .i64 (k : Int) ∧ Arr w.heap.size 5 5 (partF h.get q.get k) wz ∧ C5 (w.heap.size + 1) ⟨0, 0, 0, 0, 0⟩ wz ∧ Arr (w.heap.size + 1 + 1) 5 5 q.get wz ∧ Below w.heap.size w wz)
        (fun i _ => 5 - (intOf i).toNat)
      case atStart => exact ⟨0, by omega, rfl, x0.of_eq (fun i _ => (partF_zero _ _ i).symm), x1, x2, hbz⟩
      case round =>
        obtain ⟨k, hk, rfl, y0, y1, y2, hbr⟩ := hrel
        clear x0 x1 x2 hbz
        by_cases h5 : k < 5
        · have d5 : decide ((k : Int) < 5) = true := by simp; omega
          have k5 : (k : Int) < 5 := by omega
          have e0 := y0.at_ k h5
          have e2 := y2.at_ k h5
          have ef := (y0.there k h5).2
          rw [Nat.zero_add] at ef
          obtain ⟨p0, hp0⟩ : ∃ x, partF h.get q.get k k = x := ⟨_, rfl⟩
          obtain ⟨q0, hq0⟩ : ∃ x, q.get k = x := ⟨_, rfl⟩
          have z0 := (y0.put k h5 (addU p0 q0)).of_eq (f' := partF h.get q.get (k + 1)) (fun i _ => by rw [← hp0, ← hq0]; exact partF_put _ _ _ _)
          have z2 := y2.other w.heap.size (by omega) k (wU (addU p0 q0))
          have z1 : C5 (w.heap.size + 1) ⟨0, 0, 0, 0, 0⟩ (wr.setCell ⟨w.heap.size, k, none⟩ (wU (addU p0 q0))) := (y1.arr.other w.heap.size (by omega) k (wU (addU p0 q0))).c5
          have zb := below_setCells hbr w.heap.size (Nat.le_refl _) [wU (addU p0 q0)] k
          rw [hp0] at e0
          rw [hq0] at e2
          have Z0 := Lib.hid z0
          have Z1 := Lib.hid z1
          have Z2 := Lib.hid z2
          have ZB := Lib.hid zb
          clear y0 y1 y2 z0 z1 z2 zb hp0 hq0 hbr h5
          go_wp2_with fail
          go_still_tail 8, (by kernel_rfl)
          go_wp2
          refine ⟨⟨k + 1, by omega, rfl, Z0.out.drewN 1, Z1.out.below (Below.refl _ _).drew Z1.out.lt, Z2.out.drewN 1, ZB.out.drew⟩, ?_⟩
          simp [intOf]; omega
        · obtain rfl : k = 5 := by omega
          have f0 := y0.c5
          rw [show (⟨partF h.get q.get 5 0, partF h.get q.get 5 1, partF h.get q.get 5 2, partF h.get q.get 5 3, partF h.get q.get 5 4⟩ : H5) = mixB m h from by rw [← HQ.out]; rfl] at f0
          have f1 := y1.set (mixB m h)
          have fb := below_setCells hbr (w.heap.size + 1) (by omega) [wU (mixB m h).a, wU (mixB m h).b, wU (mixB m h).c, wU (mixB m h).d, wU (mixB m h).e] 0
          obtain ⟨r, hr⟩ : ∃ r, mixB m h = r := ⟨_, rfl⟩
          rw [hr] at f0 f1 fb
          have HR := Lib.hid hr
          have F1 := Lib.hid f1
          have FB := Lib.hid fb
          obtain ⟨l0, k0, k1, k2, k3, k4, g0, g1, g2, g3, g4⟩ := f0
          obtain ⟨l0', k0', k1', k2', k3', k4', g0', g1', g2', g3', g4'⟩ := y1
          clear y0 y2 hr f1 fb hbr
          go_wp2
          obtain ⟨l0, k0, k1, k2, k3, k4, g0, g1, g2, g3, g4⟩ := F1.out
          refine ret_arr (t := 4) (ty := 108) (cs := [wU r.a, wU r.b, wU r.c, wU r.d, wU r.e]) (by kernel_rfl) rfl (fun j v hv => ?_) un108 rfl (by exact sz108) rfl ?_
          · match j, hv with
            | 0, hv => cases hv; exact k0
            | 1, hv => cases hv; exact k1
            | 2, hv => cases hv; exact k2
            | 3, hv => cases hv; exact k3
            | 4, hv => cases hv; exact k4
          · rw [HH.out, HR.out]
            exact ⟨rfl, FB.out⟩
end Go.Proofs.Tre
