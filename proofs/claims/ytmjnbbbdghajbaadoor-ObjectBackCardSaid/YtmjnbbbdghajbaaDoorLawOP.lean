/- trestlelaw07.ObjectPrints returns true. -/
import Derived.Test.YtmjnbbbdghajbaaDoorObjA
namespace Go.Proofs.Tre
open Go Go.RowKit Go.Proofs
attribute [local go_sem ↓] exec_eq_id exec_ne_id
attribute [local go_sem] runEqId_at runNeId_at

/-- what the law's last line leans on -/
structure OpR (w : World) (g1 g2 : Nat) (p q px py pu pv : Option Addr) (a b x u : List UInt8) (W : World) : Prop where
  r1 : Row g1 (a.length + 3) (a ++ [71, 71, 71]) W
  r2 : Row g2 (b.length + 3) (b ++ [71, 71, 71]) W
  ia : InB W p a
  ib : InB W q b
  ix : InB W px x
  iy : InB W py x
  iu : InB W pu u
  iv : InB W pv u
  pw : Pow W
  bel : Below w.heap.size w W

theorem OpR.below {w : World} {g1 g2 : Nat} {p q px py pu pv : Option Addr} {a b x u : List UInt8} {W W' : World} (h : OpR w g1 g2 p q px py pu pv a b x u W) (hb : Below W.heap.size W W') :
    OpR w g1 g2 p q px py pu pv a b x u W' :=
  ⟨h.r1.below hb h.r1.lt, h.r2.below hb h.r2.lt, h.ia.below hb, h.ib.below hb, h.ix.below hb, h.iy.below hb, h.iu.below hb, h.iv.below hb, h.pw.below hb, h.bel.trans (hb.mono h.bel.size)⟩

theorem keep_cell {W W' : World} {b o : Nat} {v : Value} (h : W.cell? ⟨b, o, none⟩ = some v) (hb : Below W.heap.size W W') : W'.cell? ⟨b, o, none⟩ = some v :=
  hb.keep (cell_lt h) h

/-- .. and what lies where -/
def OpS (w : World) (g1 g2 : Nat) (p q px py pu pv : Option Addr) (a b x u : List UInt8) (k rk : Int) (c cu cv b5 b11 b13 : Nat) (W : World) : Prop :=
  W.cell? ⟨w.heap.size, 0, none⟩ = some (.int .i64 k) ∧ W.cell? ⟨w.heap.size, 1, none⟩ = some (.slice p a.length c) ∧
  W.cell? ⟨b5, 0, none⟩ = some (.int .i64 k) ∧ W.cell? ⟨b5, 1, none⟩ = some (.slice (some ⟨g1, 0, none⟩) a.length (a.length + 3)) ∧
  W.cell? ⟨b11, 0, none⟩ = some (.int .i64 rk) ∧ W.cell? ⟨b11, 1, none⟩ = some (.slice pu u.length cu) ∧
  W.cell? ⟨b13, 0, none⟩ = some (.int .i64 rk) ∧ W.cell? ⟨b13, 1, none⟩ = some (.slice pv u.length cv) ∧ OpR w g1 g2 p q px py pu pv a b x u W

theorem OpS.below {w : World} {g1 g2 : Nat} {p q px py pu pv : Option Addr} {a b x u : List UInt8} {k rk : Int} {c cu cv b5 b11 b13 : Nat} {W W' : World} (h : OpS w g1 g2 p q px py pu pv a b x u k rk c cu cv b5 b11 b13 W) (hb : Below W.heap.size W W') :
    OpS w g1 g2 p q px py pu pv a b x u k rk c cu cv b5 b11 b13 W' :=
  ⟨keep_cell h.1 hb, keep_cell h.2.1 hb, keep_cell h.2.2.1 hb, keep_cell h.2.2.2.1 hb, keep_cell h.2.2.2.2.1 hb, keep_cell h.2.2.2.2.2.1 hb, keep_cell h.2.2.2.2.2.2.1 hb, keep_cell h.2.2.2.2.2.2.2.1 hb, h.2.2.2.2.2.2.2.2.below hb⟩

theorem OpS.rest {w : World} {g1 g2 : Nat} {p q px py pu pv : Option Addr} {a b x u : List UInt8} {k rk : Int} {c cu cv b5 b11 b13 : Nat} {W : World} (h : OpS w g1 g2 p q px py pu pv a b x u k rk c cu cv b5 b11 b13 W) : OpR w g1 g2 p q px py pu pv a b x u W := h.2.2.2.2.2.2.2.2

/-- what Print gives -/
def printL (k : Int) (l : List UInt8) : List UInt8 × Int := if IsKind k then (objL k l, 0) else ([], 10)
theorem Print_17 (k : Int) (w : World) (hT : Pow w) (p : Option Addr) (c : Nat) (l : List UInt8) (hi : InB w p l) (hl : l.length ≤ 2000) :
    Calls Tryd.prog 17 #[.agg #[.int .i64 k, .slice p l.length c]] w (RetBE (printL k l).1 (printL k l).2 w) := by
  unfold printL
  by_cases hk : IsKind k
  · rw [if_pos hk]; exact Print_17_yes k hk w hT p c l hi hl
  · rw [if_neg hk]; exact Print_17_no k hk w p _ c
theorem Print_18 (k : Int) (w : World) (p : Option Addr) (c : Nat) (l : List UInt8) (hi : InB w p l) (hl : l.length ≤ 2000) :
    Calls Tryd.prog 18 #[.agg #[.int .i64 k, .slice p l.length c]] w (RetBE (printL k l).1 (printL k l).2 w) := by
  unfold printL
  by_cases hk : IsKind k
  · rw [if_pos hk]; exact Print_18_yes k hk w p c l hi hl
  · rw [if_neg hk]; exact Print_18_no k hk w p _ c

/-- the copy of the object lies beside it -/
def OpC (w : World) (k : Int) (v0 : Value) (a : List UInt8) (s : Value) (W : World) : Prop :=
  ∃ b5 g1, s = .pointer (some ⟨b5, 0, none⟩) ∧ W.cell? ⟨w.heap.size, 0, none⟩ = some (.int .i64 k) ∧ W.cell? ⟨w.heap.size, 1, none⟩ = some v0 ∧
    W.cell? ⟨b5, 0, none⟩ = some (.int .i64 k) ∧ W.cell? ⟨b5, 1, none⟩ = some (.slice (some ⟨g1, 0, none⟩) a.length (a.length + 3)) ∧ Row g1 (a.length + 3) (a ++ [71, 71, 71]) W ∧ Below w.heap.size w W

theorem Row.setOther {g c : Nat} {l : List UInt8} {w : World} (h : Row g c l w) (g' o : Nat) (v : Value) (hg : g' ≠ g) : Row g c l (w.setCell ⟨g', o, none⟩ v) := by
  have hf := fun j => World.frozen?_setCells g' [v] o w ⟨g, j, none⟩
  simp only [World.setCells] at hf
  refine ⟨by simpa using h.lt, h.le, fun i hi => (World.cell?_setCell_other _ _ _ _ (fun e => hg (by cases e; rfl))).trans (h.at_ i hi), fun j hj => ?_, fun j hj => (hf j).trans (h.free j hj)⟩
  rw [World.cell?_setCell_other _ _ _ _ (fun e => hg (by cases e; rfl))]
  exact h.there j hj

theorem OpC.new {w w3 : World} {k : Int} {v0 : Value} {a : List UInt8} {g1 : Nat} {t : TypeId} (hr : Row g1 (a.length + 3) (a ++ [71, 71, 71]) w3) (e4 : w3.cell? ⟨w.heap.size, 0, none⟩ = some (.int .i64 k)) (e5 : w3.cell? ⟨w.heap.size, 1, none⟩ = some v0)
    (hs : w.heap.size < w3.heap.size) (hb : Below w.heap.size w w3) : OpC w k v0 a (.pointer (some ⟨w3.heap.size, 0, none⟩)) (w3.alloc (.cells #[.int .i64 k, .slice (some ⟨g1, 0, none⟩) a.length (a.length + 3)] t)) := by
  have hn : Below w3.heap.size w3 (w3.alloc (.cells #[.int .i64 k, .slice (some ⟨g1, 0, none⟩) a.length (a.length + 3)] t)) := (Below.refl _ _).alloc (Nat.le_refl _) _
  exact ⟨_, g1, rfl, keep_cell e4 hn, keep_cell e5 hn, by simp [go_sem], by simp [go_sem], hr.below hn hr.lt, hb.alloc (by omega) _⟩

theorem OpC.set {w w3 : World} {k : Int} {v0 : Value} {a : List UInt8} {g1 : Nat} {x y : Value} (hr : Row g1 (a.length + 3) (a ++ [71, 71, 71]) w3) (e4 : w3.cell? ⟨w.heap.size, 0, none⟩ = some (.int .i64 k)) (e5 : w3.cell? ⟨w.heap.size, 1, none⟩ = some v0)
    (e0 : w3.cell? ⟨w.heap.size + 1, 0, none⟩ = some x) (e1 : w3.cell? ⟨w.heap.size + 1, 1, none⟩ = some y)
    (hg : w.heap.size + 1 ≠ g1) (hb : Below w.heap.size w w3) : OpC w k v0 a (.pointer (some ⟨w.heap.size + 1, 0, none⟩)) ((w3.setCell ⟨w.heap.size + 1, 0, none⟩ (.int .i64 k)).setCell ⟨w.heap.size + 1, 1, none⟩ (.slice (some ⟨g1, 0, none⟩) a.length (a.length + 3))) := by
  have hs : ∀ j, j < [Value.int .i64 k, .slice (some ⟨g1, 0, none⟩) a.length (a.length + 3)].length → (w3.cell? ⟨w.heap.size + 1, 0 + j, none⟩).isSome = true := fun j hj => by
    rw [Nat.zero_add]
    obtain rfl | rfl : j = 0 ∨ j = 1 := by simp at hj; omega
    · rw [e0]; rfl
    · rw [e1]; rfl
  have e := World.cell?_setCells_in (w.heap.size + 1) [Value.int .i64 k, .slice (some ⟨g1, 0, none⟩) a.length (a.length + 3)] 0 w3 hs
  have c0 := e 0 (by simp)
  have c1 := e 1 (by simp)
  simp only [World.setCells, Nat.zero_add, List.getElem_cons_zero, List.getElem_cons_succ] at c0 c1
  exact ⟨_, g1, rfl, (World.cell?_setCell_other _ _ _ _ (by simp)).trans ((World.cell?_setCell_other _ _ _ _ (by simp)).trans e4), (World.cell?_setCell_other _ _ _ _ (by simp)).trans ((World.cell?_setCell_other _ _ _ _ (by simp)).trans e5), c0, c1,
    (hr.setOther _ _ _ hg).setOther _ _ _ hg, below_set2 hb _ (by omega) _ _⟩

set_option maxHeartbeats 8000000 in
set_option maxRecDepth 100000 in
theorem law_op (w : World) (hT : Pow w) (k : Int) (p q : Option Addr) (c d : Nat) (a b : List UInt8) (ha : InB w p a) (hb : InB w q b) (hbc : b.length ≤ d) (hbp : q = none → d = 0) :
    Calls Tryd.prog 4 #[.agg #[.int .i64 k, .slice p a.length c], .slice q b.length d] w fun e w' => e = .returned (.bool true) ∧ Below w.heap.size w w' := by
  have hb0 : Below w.heap.size w (w.alloc (.cells #[.int .i64 k, .slice p a.length c] 38)) := (Below.refl _ _).alloc (Nat.le_refl _) _
  by_cases h1 : 1500 < a.length
  · have d1 : decide ((1500 : Int) < a.length) = true := by simp; omega
    clear h1
    go_enter Tryd.func4, Tryd.ntmps4
    go_wp2_with fail
    refine (Awake_15 _ (hT.below hb0)).mono ?_
    rintro e w1 ⟨rfl, hb1⟩
    go_wp2
    go_ret
    exact ⟨rfl, hb0.trans (hb1.mono (by simp))⟩
  have d1 : decide ((1500 : Int) < a.length) = false := by simp; omega
  by_cases h2 : 2000 < b.length
  · have d2 : decide ((2000 : Int) < b.length) = true := by simp; omega
    clear h1 h2
    go_enter Tryd.func4, Tryd.ntmps4
    go_wp2_with fail
    refine (Awake_15 _ (hT.below hb0)).mono ?_
    rintro e w1 ⟨rfl, hb1⟩
    go_wp2
    go_ret
    exact ⟨rfl, hb0.trans (hb1.mono (by simp))⟩
  have d2 : decide ((2000 : Int) < b.length) = false := by simp; omega
  have ia0 := ha.below hb0
  go_enter Tryd.func4, Tryd.ntmps4
  go_wp2_with fail
  go_upto_region 3 with fail
  go_cut [5] (fun s wc => OpC w k (.slice p a.length c) a s wc)
  case first =>
    go_region_with ((first
      | (go_at_call 16; refine (Own_any _ p c a (ha.below hb0.drew) (by omega)).mono ?_; rintro e w3 ⟨v, rfl, g1, rfl, hg1, hr1, hb3⟩; have hs3 : w.heap.size < w3.heap.size := Nat.lt_of_lt_of_le (by simp only [World.size_drew, World.size_alloc]; omega) hb3.size; have e4 := hb3.keep (b := w.heap.size) (o := 0) (v := .int .i64 k) (by simp) (by simp [go_sem]); have e5 := hb3.keep (b := w.heap.size) (o := 1) (v := .slice p a.length c) (by simp) (by simp [go_sem]))
      | (go_at_call 16; refine (Own_any _ p c a (ha.below (hb0.alloc (by simp) _).drew) (by omega)).mono ?_; rintro e w3 ⟨v, rfl, g1, rfl, hg1, hr1, hb3⟩; have hs3 : w.heap.size < w3.heap.size := Nat.lt_of_lt_of_le (by simp only [World.size_drew, World.size_alloc]; omega) hb3.size; have e4 := hb3.keep (b := w.heap.size) (o := 0) (v := .int .i64 k) (by simp; omega) (by simp [go_sem]); have e5 := hb3.keep (b := w.heap.size) (o := 1) (v := .slice p a.length c) (by simp; omega) (by simp [go_sem]); have e0 := hb3.keep (b := w.heap.size + 1) (o := 0) (v := .int .i64 0) (by simp) (by simp [go_sem]); have e1 := hb3.keep (b := w.heap.size + 1) (o := 1) (v := .slice none 0 0) (by simp) (by simp [go_sem]); have e2 : w3.frozen? ⟨w.heap.size + 1, 0, none⟩ = false := (hb3.frozen (p := ⟨w.heap.size + 1, 0, none⟩) (by simp)).trans (by simp [go_sem]); have e3 : w3.frozen? ⟨w.heap.size + 1, 1, none⟩ = false := (hb3.frozen (p := ⟨w.heap.size + 1, 1, none⟩) (by simp)).trans (by simp [go_sem]))))
    all_goals
      go_wp2
      go_meet
      case rel =>
        first
          | exact OpC.new hr1 e4 e5 hs3 (hb0.drew.trans (hb3.mono (by simp)))
          | exact OpC.set hr1 e4 e5 e0 e1 (by simp at hg1; omega) ((hb0.alloc (by simp) _).drew.trans (hb3.mono (by simp; omega)))
  case rest =>
    obtain ⟨b5, g1, rfl, k0, k1, k2, k3, r1, bel⟩ := hcut
    have hbl := bel.size
    have c16 := Own_any wc q d b (hb.below bel) (by omega)
    clear ia0
    go_wp2_with fail
    refine c16.mono ?_
    rintro e w1 ⟨v, rfl, g2, rfl, hg2, r2, n1⟩
    replace k0 := keep_cell k0 n1
    replace k1 := keep_cell k1 n1
    replace k2 := keep_cell k2 n1
    replace k3 := keep_cell k3 n1
    replace r1 := r1.below n1 r1.lt
    replace bel := bel.trans (n1.mono bel.size)
    obtain ⟨x, hx⟩ : ∃ x, printL k a = x := ⟨_, rfl⟩
    have c17 := fun W h1 h2 => Print_17 k W h1 (some ⟨g1, 0, none⟩) (a.length + 3) a h2 (by omega)
    have c18 := fun W h2 => Print_18 k W p c a h2 (by omega)
    simp only [hx] at c17 c18
    obtain ⟨x, ex⟩ := x
    dsimp only at c17 c18
    have C17 := Lib.hid c17
    have C18 := Lib.hid c18
    obtain ⟨r, hr⟩ : ∃ r, parsed b = r := ⟨_, rfl⟩
    have c19 := fun W h1 h2 => Parse_19 W h1 (some ⟨g2, 0, none⟩) (b.length + 3) b h2 (by omega) (fun h => by cases h) (by omega)
    have c20 := fun W h2 => Parse_20 W q d b h2 hbc hbp (by omega)
    simp only [hr] at c19 c20
    obtain ⟨rk, u, er⟩ := r
    have C19 := Lib.hid c19
    have C20 := Lib.hid c20
    clear c17 c18 c19 c20 hx hr c16 hbl hb0
    go_wp2_with fail
    refine (C17.out _ (hT.below bel) r1.head.inB).mono ?_
    rintro e w2 ⟨v, rfl, px, cx, rfl, -, -, ix, n2⟩
    replace k0 := keep_cell k0 n2
    replace k1 := keep_cell k1 n2
    replace k2 := keep_cell k2 n2
    replace k3 := keep_cell k3 n2
    replace r1 := r1.below n2 r1.lt
    replace r2 := r2.below n2 r2.lt
    replace bel := bel.trans (n2.mono bel.size)
    clear n1
    go_wp2_with fail
    refine (C18.out _ (ha.below bel)).mono ?_
    rintro e w3 ⟨v, rfl, py, cy, rfl, -, -, iy, n3⟩
    replace k0 := keep_cell k0 n3
    replace k1 := keep_cell k1 n3
    replace k2 := keep_cell k2 n3
    replace k3 := keep_cell k3 n3
    replace r1 := r1.below n3 r1.lt
    replace r2 := r2.below n3 r2.lt
    replace ix := ix.below n3
    replace bel := bel.trans (n3.mono bel.size)
    clear n2
    go_wp2_with fail
    refine (C19.out _ (hT.below bel) r2.head.inB).mono ?_
    rintro e w4 ⟨pu, cu, rfl, iu, -, -, n4⟩
    replace k0 := keep_cell k0 n4
    replace k1 := keep_cell k1 n4
    replace k2 := keep_cell k2 n4
    replace k3 := keep_cell k3 n4
    replace r1 := r1.below n4 r1.lt
    replace r2 := r2.below n4 r2.lt
    replace ix := ix.below n4
    replace iy := iy.below n4
    replace bel := bel.trans (n4.mono bel.size)
    clear n3
    have n5 : Below w4.heap.size w4 (w4.alloc (.cells #[.int .i64 rk, .slice pu u.length cu] 38)) := (Below.refl _ _).alloc (Nat.le_refl _) _
    have c20 := C20.out _ (hb.below (bel.trans (n5.mono bel.size)))
    dsimp only
    go_wp2_with fail
    refine c20.mono ?_
    rintro e w5 ⟨pv, cv, rfl, iv, -, -, n6⟩
    have n7 : Below w5.heap.size w5 (w5.alloc (.cells #[.int .i64 rk, .slice pv u.length cv] 38)) := (Below.refl _ _).alloc (Nat.le_refl _) _
    dsimp only at iv iu
    have nn : Below w4.heap.size w4 (w5.alloc (.cells #[.int .i64 rk, .slice pv u.length cv] 38)) := (n5.trans (n6.mono n5.size)).trans (n7.mono (Nat.le_trans n5.size n6.size))
    have m0 : (w4.alloc (.cells #[.int .i64 rk, .slice pu u.length cu] 38)).cell? ⟨w4.heap.size, 0, none⟩ = some (.int .i64 rk) := by simp [go_sem]
    have m1 : (w4.alloc (.cells #[.int .i64 rk, .slice pu u.length cu] 38)).cell? ⟨w4.heap.size, 1, none⟩ = some (.slice pu u.length cu) := by simp [go_sem]
    have hS : OpS w g1 g2 p q px py pu pv a b x u k rk c cu cv b5 w4.heap.size w5.heap.size (w5.alloc (.cells #[.int .i64 rk, .slice pv u.length cv] 38)) :=
      ⟨keep_cell k0 nn, keep_cell k1 nn, keep_cell k2 nn, keep_cell k3 nn, keep_cell (keep_cell m0 n6) n7, keep_cell (keep_cell m1 n6) n7, by simp [go_sem], by simp [go_sem],
        ⟨r1.below nn r1.lt, r2.below nn r2.lt, ha.below (bel.trans (nn.mono bel.size)), hb.below (bel.trans (nn.mono bel.size)), ix.below nn, iy.below nn, iu.below nn, iv.below n7, hT.below (bel.trans (nn.mono bel.size)), bel.trans (nn.mono bel.size)⟩⟩
    clear k0 k1 k2 k3 r1 r2 ix iy iu iv n4 n5 n6 n7 nn bel C17 C18 C19 C20 c20 m0 m1 hg2 ha hb hT
    go_wp2_with fail
    obtain ⟨M, hM⟩ : ∃ M, w5.alloc (.cells #[.int .i64 rk, .slice pv u.length cv] 38) = M := ⟨_, rfl⟩
    rw [hM] at hS ⊢
    obtain ⟨b11, h11⟩ : ∃ b11, w4.heap.size = b11 := ⟨_, rfl⟩
    obtain ⟨b13, h13⟩ : ∃ b13, w5.heap.size = b13 := ⟨_, rfl⟩
    rw [h11, h13] at hS ⊢
    clear hM h11 h13
    have S0 := fun W (h : OpS w g1 g2 p q px py pu pv a b x u k rk c cu cv b5 b11 b13 W) W' (hb : Below W.heap.size W W') => h.below hb
    have c15 : ∀ W, OpS w g1 g2 p q px py pu pv a b x u k rk c cu cv b5 b11 b13 W → Calls Tryd.prog 15 #[] W fun e w' => e = .returned (.bool true) ∧ OpS w g1 g2 p q px py pu pv a b x u k rk c cu cv b5 b11 b13 w' :=
      fun W h => (Awake_15 W h.rest.pw).mono fun e w' ⟨h1, h2⟩ => ⟨h1, h.below h2⟩
    have c21 : ∀ W, OpS w g1 g2 p q px py pu pv a b x u k rk c cu cv b5 b11 b13 W → Calls Tryd.prog 21 #[.slice px x.length cx, .slice py x.length cy] W fun e w' => e = .returned (.bool true) ∧ OpS w g1 g2 p q px py pu pv a b x u k rk c cu cv b5 b11 b13 w' :=
      fun W h => (Bytes_any W px py _ _ cx cy x x rfl rfl h.rest.ix h.rest.iy).mono fun e w' ⟨h1, h2⟩ => ⟨by rw [h1]; simp, by subst h2; exact h⟩
    have c22 : ∀ W, OpS w g1 g2 p q px py pu pv a b x u k rk c cu cv b5 b11 b13 W → Calls Tryd.prog 22 #[.agg #[.int .i64 k, .slice (some ⟨g1, 0, none⟩) a.length (a.length + 3)]] W fun e w' => e = .returned (idO k a).v ∧ OpS w g1 g2 p q px py pu pv a b x u k rk c cu cv b5 b11 b13 w' :=
      fun W h => (Id_22 k W h.rest.pw _ _ a h.rest.r1.head.inB (by omega)).mono fun e w' ⟨h1, h2⟩ => ⟨h1, h.below h2⟩
    have c23 : ∀ W, OpS w g1 g2 p q px py pu pv a b x u k rk c cu cv b5 b11 b13 W → Calls Tryd.prog 23 #[.agg #[.int .i64 k, .slice p a.length c]] W fun e w' => e = .returned (idO k a).v ∧ OpS w g1 g2 p q px py pu pv a b x u k rk c cu cv b5 b11 b13 w' :=
      fun W h => (Id_23 k W _ _ a h.rest.ia (by omega)).mono fun e w' ⟨h1, h2⟩ => ⟨h1, h.below h2⟩
    have c24 : ∀ W, OpS w g1 g2 p q px py pu pv a b x u k rk c cu cv b5 b11 b13 W → Calls Tryd.prog 24 #[.agg #[.int .i64 rk, .slice pu u.length cu], .agg #[.int .i64 rk, .slice pv u.length cv]] W fun e w' => e = .returned (.bool true) ∧ OpS w g1 g2 p q px py pu pv a b x u k rk c cu cv b5 b11 b13 w' :=
      fun W h => (Object_any W rk rk pu pv cu cv u u h.rest.iu h.rest.iv).mono fun e w' ⟨h1, h2⟩ => ⟨by rw [h1]; simp, h.below h2⟩
    have c25 : ∀ W, OpS w g1 g2 p q px py pu pv a b x u k rk c cu cv b5 b11 b13 W → Calls Tryd.prog 25 #[.int .i64 k] W fun e w' => e = .returned (.string (wordS k)) ∧ OpS w g1 g2 p q px py pu pv a b x u k rk c cu cv b5 b11 b13 w' :=
      fun W h => (Word_any k W).mono fun e w' ⟨h1, h2⟩ => ⟨h1, h.below h2⟩
    have c26 : ∀ W, OpS w g1 g2 p q px py pu pv a b x u k rk c cu cv b5 b11 b13 W → Calls Tryd.prog 26 #[.int .i64 k] W fun e w' => e = .returned (.string (wordS k)) ∧ OpS w g1 g2 p q px py pu pv a b x u k rk c cu cv b5 b11 b13 w' :=
      fun W h => (WordR_any k W).mono fun e w' ⟨h1, h2⟩ => ⟨h1, by subst h2; exact h⟩
    have c27 : ∀ W, OpS w g1 g2 p q px py pu pv a b x u k rk c cu cv b5 b11 b13 W → Calls Tryd.prog 27 #[.slice (some ⟨g1, 0, none⟩) a.length (a.length + 3), .slice p a.length c, .int .u8 71] W fun e w' => e = .returned (.bool true) ∧ OpS w g1 g2 p q px py pu pv a b x u k rk c cu cv b5 b11 b13 w' :=
      fun W h => (Kept_true W g1 p c a h.rest.r1 h.rest.ia (by omega)).mono fun e w' ⟨h1, h2⟩ => ⟨h1, h.below h2⟩
    have c28 : ∀ W, OpS w g1 g2 p q px py pu pv a b x u k rk c cu cv b5 b11 b13 W → Calls Tryd.prog 27 #[.slice (some ⟨g2, 0, none⟩) b.length (b.length + 3), .slice q b.length d, .int .u8 71] W fun e w' => e = .returned (.bool true) ∧ OpS w g1 g2 p q px py pu pv a b x u k rk c cu cv b5 b11 b13 w' :=
      fun W h => (Kept_true W g2 q d b h.rest.r2 h.rest.ib (by omega)).mono fun e w' ⟨h1, h2⟩ => ⟨h1, h.below h2⟩
    obtain ⟨id, hid⟩ : ∃ id, idO k a = id := ⟨_, rfl⟩
    rw [hid] at c22 c23
    obtain ⟨ws, hws⟩ : ∃ ws, wordS k = ws := ⟨_, rfl⟩
    rw [hws] at c25 c26
    have C15 := Lib.hid c15
    have C21 := Lib.hid c21
    have C22 := Lib.hid c22
    have C23 := Lib.hid c23
    have C24 := Lib.hid c24
    have C25 := Lib.hid c25
    have C26 := Lib.hid c26
    have C27 := Lib.hid c27
    have C28 := Lib.hid c28
    have SD := S0 M hS M.drew (Below.refl _ _).drew
    have S0 := Lib.hid S0
    clear c15 c21 c22 c23 c24 c25 c26 c27 c28 hid hws
    go_region_held3 (fun W => W.cell? ⟨w.heap.size, 0, none⟩ = some (.int .i64 k) ∧ W.cell? ⟨w.heap.size, 1, none⟩ = some (.slice p a.length c) ∧
        W.cell? ⟨b5, 0, none⟩ = some (.int .i64 k) ∧ W.cell? ⟨b5, 1, none⟩ = some (.slice (some ⟨g1, 0, none⟩) a.length (a.length + 3)) ∧
        W.cell? ⟨b11, 0, none⟩ = some (.int .i64 rk) ∧ W.cell? ⟨b11, 1, none⟩ = some (.slice pu u.length cu) ∧
        W.cell? ⟨b13, 0, none⟩ = some (.int .i64 rk) ∧ W.cell? ⟨b13, 1, none⟩ = some (.slice pv u.length cv) ∧ OpR w g1 g2 p q px py pu pv a b x u W)
      (first | assumption)
      ((first
        | (go_at_call 15; (with_reducible refine (C15.out _ ?_).mono ?_); assumption; rintro e w' ⟨rfl, hS9⟩)
        | (go_at_call 21; (with_reducible refine (C21.out _ ?_).mono ?_); assumption; rintro e w' ⟨rfl, hS9⟩)
        | (go_at_call 22; (with_reducible refine (C22.out _ ?_).mono ?_); assumption; rintro e w' ⟨rfl, hS9⟩)
        | (go_at_call 23; (with_reducible refine (C23.out _ ?_).mono ?_); assumption; rintro e w' ⟨rfl, hS9⟩)
        | (go_at_call 24; (with_reducible refine (C24.out _ ?_).mono ?_); assumption; rintro e w' ⟨rfl, hS9⟩)
        | (go_at_call 25; (with_reducible refine (C25.out _ ?_).mono ?_); assumption; rintro e w' ⟨rfl, hS9⟩)
        | (go_at_call 26; (with_reducible refine (C26.out _ ?_).mono ?_); assumption; rintro e w' ⟨rfl, hS9⟩)
        | (go_at_call 27; (with_reducible refine (C27.out _ ?_).mono ?_); assumption; rintro e w' ⟨rfl, hS9⟩)
        | (go_at_call 27; (with_reducible refine (C28.out _ ?_).mono ?_); assumption; rintro e w' ⟨rfl, hS9⟩)))
    go_wp2
    go_ret
    exact ⟨rfl, hS9.rest.bel⟩
end Go.Proofs.Tre
