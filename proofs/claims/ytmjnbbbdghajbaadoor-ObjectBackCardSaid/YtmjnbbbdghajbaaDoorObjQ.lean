/- object.Parse. -/
import Derived.Test.YtmjnbbbdghajbaaDoorObjP
import Derived.Test.YtmjnbbbdghajbaaDoorByt
namespace Go.Proofs.Tre
open Go Go.RowKit Go.Proofs

def after (l : List UInt8) : List UInt8 := l.drop ((Lib.indexByte l 0).toNat + 1)
def isO (l : List UInt8) (k : Int) : Bool := decide (0 ≤ Lib.indexByte l 0) && (objL k (after l) == l)
/-- kind, body, error -/
def parsed (l : List UInt8) : Int × List UInt8 × Int := if isO l 1 then (1, after l, 0) else if isO l 2 then (2, after l, 0) else if isO l 3 then (3, after l, 0) else (0, [], 4)

/-- an object, and an error's number -/
def RetO (r : Int × List UInt8 × Int) (w : World) (e : Ending) (w' : World) : Prop :=
  ∃ p c, e = .returned (.tuple #[.agg #[.int .i64 r.1, .slice p r.2.1.length c], .int .i64 r.2.2]) ∧ InB w' p r.2.1 ∧ r.2.1.length ≤ c ∧ (p = none → c = 0) ∧ Below w.heap.size w w'

theorem Cut_no (w : World) (p : Option Addr) (c : Nat) (l : List UInt8) (g : Nat) (hi : InB w p l) (hc : l.length ≤ c) (hp : p = none → c = 0) (hl : l.length ≤ 100000) (hz : w.cell? ⟨g, 0, none⟩ = some (.int .u8 0)) (h0 : ¬ 0 ≤ Lib.indexByte l 0) :
    Calls Tryd.prog 63 #[.slice p l.length c, .slice (some ⟨g, 0, none⟩) 1 1] w fun e w' => e = .returned (.tuple #[.slice p l.length c, .slice none 0 0, .bool false]) ∧ Below w.heap.size w w' :=
  (Cut_any w p c l g hi hc hp hl hz).mono fun e w' ⟨h1, q, h2⟩ => ⟨by rw [h1, Lib.cutV, if_neg h0], by subst h2; exact below_drewN (Below.refl _ _) q⟩

theorem Cut_yes (w : World) (p : Option Addr) (c : Nat) (l : List UInt8) (g : Nat) (hi : InB w p l) (hc : l.length ≤ c) (hp : p = none → c = 0) (hl : l.length ≤ 100000) (hz : w.cell? ⟨g, 0, none⟩ = some (.int .u8 0)) (h0 : 0 ≤ Lib.indexByte l 0) :
    ∃ a p' c', InB w p' (after l) ∧ (after l).length ≤ c' ∧ (p' = none → c' = 0) ∧
    Calls Tryd.prog 63 #[.slice p l.length c, .slice (some ⟨g, 0, none⟩) 1 1] w fun e w' => e = .returned (.tuple #[.slice p a c, .slice p' (after l).length c', .bool true]) ∧ Below w.heap.size w w' := by
  refine ⟨(Lib.indexByte l 0).toNat, _, c - ((Lib.indexByte l 0).toNat + 1), hi.from c ((Lib.indexByte l 0).toNat + 1) hc, ?_, ?_, (Cut_any w p c l g hi hc hp hl hz).mono fun e w' ⟨h1, q, h2⟩ => ⟨?_, by subst h2; exact below_drewN (Below.refl _ _) q⟩⟩
  · simp [after]; omega
  · intro h
    have hpn : p = none := by
      split at h
      · exact h
      · simpa using h
    have := hp hpn
    omega
  · rw [h1, Lib.cutV, if_pos h0, Lib.fromV]
    simp [after]

theorem after_len (l : List UInt8) : (after l).length ≤ l.length := by simp [after]

theorem parsed_no {l : List UInt8} (h0 : ¬ 0 ≤ Lib.indexByte l 0) : parsed l = (0, [], 4) := by
  have : ∀ k, isO l k = false := fun k => by simp [isO, h0]
  simp [parsed, this]

theorem parsed_at {l : List UInt8} {j : Nat} (h1 : 1 ≤ j) (h3 : j ≤ 3) (hn : ∀ i : Nat, 1 ≤ i → i < j → isO l i = false) (h : isO l j = true) : parsed l = ((j : Int), after l, 0) := by
  unfold parsed
  obtain rfl | rfl | rfl : j = 1 ∨ j = 2 ∨ j = 3 := by omega
  · have h' : isO l 1 = true := h
    rw [if_pos h']; rfl
  · have e1 : isO l 1 = false := hn 1 (by omega) (by omega)
    have h' : isO l 2 = true := h
    rw [if_neg (by rw [e1]; decide), if_pos h']; rfl
  · have e1 : isO l 1 = false := hn 1 (by omega) (by omega)
    have e2 : isO l 2 = false := hn 2 (by omega) (by omega)
    have h' : isO l 3 = true := h
    rw [if_neg (by rw [e1]; decide), if_neg (by rw [e2]; decide), if_pos h']; rfl
theorem parsed_none {l : List UInt8} (hn : ∀ i : Nat, 1 ≤ i → i < 4 → isO l i = false) : parsed l = (0, [], 4) := by
  unfold parsed
  have e1 := hn 1 (by omega) (by omega)
  have e2 := hn 2 (by omega) (by omega)
  have e3 := hn 3 (by omega) (by omega)
  rw [if_neg (by rw [show ((1 : Int)) = ((1 : Nat) : Int) from rfl, e1]; decide), if_neg (by rw [show ((2 : Int)) = ((2 : Nat) : Int) from rfl, e2]; decide), if_neg (by rw [show ((3 : Int)) = ((3 : Nat) : Int) from rfl, e3]; decide)]

theorem ret_obj {fn : Func} {R : Ending → World → Prop} {a : Act} {W : World} {g : Nat} {x y e : Value} (hr : fn.results = #[.cell 2 38, .tmp 3]) (h2 : a.tmps[2]? = some (.pointer (some ⟨g, 0, none⟩))) (h3 : a.tmps[3]? = some e)
    (hc0 : W.cell? ⟨g, 0, none⟩ = some x) (hc1 : W.cell? ⟨g, 1, none⟩ = some y) (hd : a.defers = []) (hR : R (.returned (.tuple #[.agg #[x, y], e])) W) : bodyPost Tryd.prog fn R .ret a W := by
  refine bodyPost_ret (v := .tuple #[.agg #[x, y], e]) ?_ hd hR
  simp [results, hr, h2, h3, loadVar, go_sem, hc0, hc1]

/-- the result's own cells -/
structure Box (g : Nat) (x y : Value) (w : World) : Prop where
  c0 : w.cell? ⟨g, 0, none⟩ = some x
  c1 : w.cell? ⟨g, 1, none⟩ = some y
  f0 : w.frozen? ⟨g, 0, none⟩ = false
  f1 : w.frozen? ⟨g, 1, none⟩ = false

theorem Box.below {g B : Nat} {x y : Value} {w w' : World} (h : Box g x y w) (hb : Below B w w') (hg : g < B) : Box g x y w' :=
  ⟨hb.keep hg h.c0, hb.keep hg h.c1, by rw [hb.frozen (p := ⟨g, 0, none⟩) hg]; exact h.f0, by rw [hb.frozen (p := ⟨g, 1, none⟩) hg]; exact h.f1⟩

theorem Box.new (w : World) (x y : Value) (t : TypeId) : Box w.heap.size x y (w.alloc (.cells #[x, y] t)) := ⟨by simp [go_sem], by simp [go_sem], by simp [go_sem], by simp [go_sem]⟩

theorem below_set2 {B : Nat} {a w : World} (h : Below B a w) (g : Nat) (hg : B ≤ g) (x y : Value) : Below B a ((w.setCell ⟨g, 0, none⟩ x).setCell ⟨g, 1, none⟩ y) := by
  have := below_setCells h g hg [x, y] 0
  simpa [World.setCells] using this

theorem InB.set {w : World} {p : Option Addr} {l : List UInt8} (h : InB w p l) {a : Addr} {x : Value} (hx : w.cell? a = some x) (hn : ∀ n, x ≠ .int .u8 n) (v : Value) : InB (w.setCell a v) p l := fun hl => by
  obtain ⟨b, o, hp, hb, hc⟩ := h hl
  refine ⟨b, o, hp, by simpa using hb, fun i hi => ?_⟩
  have hne : (⟨b, o + i, none⟩ : Addr) ≠ a := fun e => by
    rw [← e, hc i hi] at hx
    exact hn _ (Option.some.inj hx).symm
  exact (World.cell?_setCell_other _ _ _ _ (Ne.symm hne)).trans (hc i hi)

theorem Box.set1 {g : Nat} {x y : Value} {w : World} (h : Box g x y w) (y' : Value) : Box g x y' (w.setCell ⟨g, 1, none⟩ y') := by
  have hs : ∀ j, j < [y'].length → (w.cell? ⟨g, 1 + j, none⟩).isSome = true := fun j hj => by
    obtain rfl : j = 0 := by simp at hj; omega
    rw [Nat.add_zero, h.c1]; rfl
  have e := World.cell?_setCells_in g [y'] 1 w hs 0 (by simp)
  have f0 := World.frozen?_setCells g [y'] 1 w ⟨g, 0, none⟩
  have f1 := World.frozen?_setCells g [y'] 1 w ⟨g, 1, none⟩
  simp only [World.setCells, Nat.add_zero, List.getElem_cons_zero] at e f0 f1
  exact ⟨(World.cell?_setCell_other _ _ _ _ (by simp)).trans h.c0, e, f0.trans h.f0, f1.trans h.f1⟩

theorem Box.other {g g' : Nat} {x y : Value} {w : World} (h : Box g x y w) (hg : g' ≠ g) (o : Nat) (v : Value) : Box g x y (w.setCell ⟨g', o, none⟩ v) := by
  have f0 := World.frozen?_setCells g' [v] o w ⟨g, 0, none⟩
  have f1 := World.frozen?_setCells g' [v] o w ⟨g, 1, none⟩
  simp only [World.setCells] at f0 f1
  exact ⟨(World.cell?_setCell_other _ _ _ _ (fun e => hg (by cases e; rfl))).trans h.c0, (World.cell?_setCell_other _ _ _ _ (fun e => hg (by cases e; rfl))).trans h.c1, f0.trans h.f0, f1.trans h.f1⟩

theorem Box.set2 {g : Nat} {x y : Value} {w : World} (h : Box g x y w) (x' y' : Value) : Box g x' y' ((w.setCell ⟨g, 0, none⟩ x').setCell ⟨g, 1, none⟩ y') := by
  have hs : ∀ j, j < [x', y'].length → (w.cell? ⟨g, 0 + j, none⟩).isSome = true := fun j hj => by
    rw [Nat.zero_add]
    obtain rfl | rfl : j = 0 ∨ j = 1 := by simp at hj; omega
    · rw [h.c0]; rfl
    · rw [h.c1]; rfl
  have e := World.cell?_setCells_in g [x', y'] 0 w hs
  have e0 := e 0 (by simp)
  have e1 := e 1 (by simp)
  have f0 := World.frozen?_setCells g [x', y'] 0 w ⟨g, 0, none⟩
  have f1 := World.frozen?_setCells g [x', y'] 0 w ⟨g, 1, none⟩
  simp only [World.setCells, Nat.zero_add, Nat.add_zero, List.getElem_cons_zero, List.getElem_cons_succ] at e0 e1 f0 f1
  exact ⟨e0, e1, f0.trans h.f0, f1.trans h.f1⟩

set_option maxHeartbeats 1000000 in
set_option maxRecDepth 100000 in
theorem Parse_19_no (w : World) (p : Option Addr) (c : Nat) (l : List UInt8) (hi : InB w p l) (hc : l.length ≤ c) (hp : p = none → c = 0) (hl : l.length ≤ 2000) (h0 : ¬ 0 ≤ Lib.indexByte l 0) :
    Calls Tryd.prog 19 #[.slice p l.length c] w (RetO (parsed l) w) := by
  rw [parsed_no h0]
  have hb0 : Below w.heap.size w ((w.alloc (.cells #[.int .i64 0, .slice none 0 0] 38)).alloc (.cells #[.int .u8 0] 5)) := ((Below.refl _ _).alloc (Nat.le_refl _) _).alloc (by simp) _
  have cc := Cut_no _ p c l (w.heap.size + 1) (hi.below hb0) hc hp (by omega) (by simp [go_sem]) h0
  clear h0
  go_enter Tryd.func19, Tryd.ntmps19
  go_wp2_with fail
  refine cc.mono ?_
  rintro e w1 ⟨rfl, hb1⟩
  have hx := (((Box.new w (.int .i64 0) (.slice none 0 0) 38).below (B := w.heap.size + 1) ((Below.refl _ _).alloc (by simp) (.cells #[.int .u8 0] 5)) (by omega)).below hb1 (by simp; omega))
  have hx' := hx.set2 (.int .i64 0) (.slice none 0 0)
  obtain ⟨k0, k1, f0, f1⟩ := hx
  go_wp2
  refine ret_obj (by kernel_rfl) rfl rfl hx'.c0 hx'.c1 rfl ?_
  exact ⟨none, 0, rfl, InB.nil _ _, Nat.le_refl _, fun _ => rfl, below_set2 (hb0.trans (hb1.mono (by simp; omega))) _ (Nat.le_refl _) _ _⟩

set_option maxHeartbeats 2000000 in
set_option maxRecDepth 100000 in
theorem Parse_19_yes (w : World) (hT : Pow w) (p : Option Addr) (c : Nat) (l : List UInt8) (hi : InB w p l) (hc : l.length ≤ c) (hp : p = none → c = 0) (hl : l.length ≤ 2000) (h0 : 0 ≤ Lib.indexByte l 0) :
    Calls Tryd.prog 19 #[.slice p l.length c] w (RetO (parsed l) w) := by
  have hb0 : Below w.heap.size w ((w.alloc (.cells #[.int .i64 0, .slice none 0 0] 38)).alloc (.cells #[.int .u8 0] 5)) := ((Below.refl _ _).alloc (Nat.le_refl _) _).alloc (by simp) _
  obtain ⟨a, p', c', hi', hc', hp', cc⟩ := Cut_yes _ p c l (w.heap.size + 1) (hi.below hb0) hc hp (by omega) (by simp [go_sem]) h0
  have hdec : decide (0 ≤ Lib.indexByte l 0) = true := by simpa using h0
  have hal := after_len l
  have HO : ∀ k, isO l k = (objL k (after l) == l) := fun k => by rw [isO, hdec, Bool.true_and]
  have hpa := fun (j : Nat) h1 h3 hn h => parsed_at (l := l) (j := j) h1 h3 hn h
  have hpn := fun hn => parsed_none (l := l) hn
  obtain ⟨r, hr⟩ : ∃ r, parsed l = r := ⟨_, rfl⟩
  obtain ⟨t, ht⟩ : ∃ t, after l = t := ⟨_, rfl⟩
  rw [hr]
  simp only [hr, ht] at hpa hpn HO
  rw [ht] at hi' hc' cc hal
  have HPA := Lib.hid hpa
  have HPN := Lib.hid hpn
  have HHO := Lib.hid HO
  clear h0 hdec hr ht hpa hpn HO hp
  go_enter Tryd.func19, Tryd.ntmps19
  go_wp2_with fail
  refine cc.mono ?_
  rintro e w1 ⟨rfl, hb1⟩
  have hx := (((Box.new w (.int .i64 0) (.slice none 0 0) 38).below (B := w.heap.size + 1) ((Below.refl _ _).alloc (by simp) (.cells #[.int .u8 0] 5)) (by omega)).below hb1 (by simp; omega))
  have hi1 := hi'.below hb1
  have hbw1 : Below w.heap.size w w1 := hb0.trans (hb1.mono (by simp; omega))
  have hs1 : w.heap.size + 2 ≤ w1.heap.size := by have := hb1.size; simp at this; omega
  clear hi' cc hb1 hb0
  go_wp2_with fail
  go_loopw [7] (fun i wr => ∃ j : Nat, 1 ≤ j ∧ j ≤ 4 ∧ i = .int .i64 j ∧ (∀ i : Nat, 1 ≤ i → i < j → isO l i = false) ∧ Below w1.heap.size w1 wr)
    (fun i _ => 4 - (intOf i).toNat)
  case atStart => exact ⟨1, by omega, by omega, rfl, fun i h1 h2 => by omega, Below.refl _ _⟩
  case round =>
    obtain ⟨j, hj1, hj4, rfl, hno, hbr⟩ := hrel
    have hxr := hx.below hbr (by omega)
    have HNO := Lib.hid hno
    clear hno hx
    by_cases hlt : j < 4
    · have hj3 : decide ((j : Int) ≤ 3) = true := by simp; omega
      have hk : IsKind (j : Int) := by unfold IsKind; omega
      have hir := (hi1.below hbr).below ((Below.refl _ _).alloc (Nat.le_refl _) (.cells #[.int .i64 j, .slice p' t.length c'] 38))
      have hba : Below wr.heap.size wr (wr.alloc (.cells #[.int .i64 j, .slice p' t.length c'] 38)) := (Below.refl _ _).alloc (Nat.le_refl _) _
      have cp := Print_17_yes j hk _ ((hT.below (hbw1.trans (hbr.mono (by omega)))).below hba) p' c' t hir (by omega)
      have hbn := Box.new wr (.int .i64 j) (.slice p' t.length c') 38
      have hsr := hbr.size
      clear hir
      go_wp2_with fail
      refine cp.mono ?_
      rintro e w2 ⟨v, rfl, q, cq, rfl, hcq, hpq, hiq, hb2⟩
      have hb2' : Below wr.heap.size wr w2 := hba.trans (hb2.mono (by simp))
      have hil : InB w2 p l := (hi.below hbw1).below (hbr.trans (hb2'.mono hsr))
      have ce := Equal_any w2 q p _ _ cq c _ l rfl rfl hiq hil
      rw [← HHO.out] at ce
      have hbx := hbn.below hb2 (by simp)
      have hxx := hxr.below hb2' (by omega)
      clear cp hbn hxr
      obtain ⟨bo, hbo⟩ : ∃ bo, isO l j = bo := ⟨_, rfl⟩
      rw [hbo] at ce
      have HBO := Lib.hid hbo
      clear hbo
      cases bo with
      | true =>
        have cl := Clone_any w2 p' c' t (hi1.below (hbr.trans (hb2'.mono hsr))) hp' (by omega)
        go_wp2_with fail
        refine ce.mono ?_
        rintro e w3 ⟨rfl, rfl⟩
        go_wp2_with fail
        refine cl.mono ?_
        rintro e w4 ⟨v, rfl, q4, c4, rfl, hc4, hp4, hi4, hb4⟩
        have hb4' := hb2'.trans (hb4.mono hb2'.size)
        have hs3 := hb2.size
        simp only [World.size_alloc] at hs3
        have hbx4 := hbx.below hb4 (by omega)
        have hxx4 := hxx.below hb4 (by omega)
        have hb5 := hbx4.set1 (.slice q4 t.length c4)
        have hx5 := hxx4.other (g' := wr.heap.size) (by omega) 1 (.slice q4 t.length c4)
        have hi5 := hi4.set hbx4.c1 (fun n => by simp) (.slice q4 t.length c4)
        have hx6 := hx5.set2 (.int .i64 j) (.slice q4 t.length c4)
        have hi6 := (hi5.set hx5.c0 (fun n => by simp) (.int .i64 j)).set ((World.cell?_setCell_other _ _ _ _ (by simp)).trans hx5.c1) (fun n => by simp) (.slice q4 t.length c4)
        have hw6 : Below w.heap.size w _ := below_set2 (below_setCells (hbw1.trans ((hbr.trans (hb4'.mono hsr)).mono (by omega))) wr.heap.size (by omega) [.slice q4 t.length c4] 1) w.heap.size (Nat.le_refl _) (.int .i64 j) (.slice q4 t.length c4)
        clear hbx hxx hi4 hi5 ce cl
        have HX6 := Lib.hid hx6
        have HI6 := Lib.hid hi6
        have HW6 := Lib.hid hw6
        clear hx6 hi6 hw6
        have e0 := hbx4.f0
        have e1 := hbx4.f1
        have e2 := hbx4.c0
        have e3 := hbx4.c1
        have e4 := hxx4.f0
        have e5 := hxx4.f1
        have e6 := hxx4.c0
        have e7 := hxx4.c1
        clear hbx4 hxx4 hb5 hx5
        go_wp2
        refine ret_obj (by kernel_rfl) rfl rfl HX6.out.c0 HX6.out.c1 rfl ?_
        have er := HPA.out j hj1 (by omega) HNO.out HBO.out
        subst er
        exact ⟨q4, c4, rfl, HI6.out, hc4, hp4, HW6.out⟩
      | false =>
        go_wp2_with fail
        refine ce.mono ?_
        rintro e w3 ⟨rfl, rfl⟩
        go_wp2_with fail
        go_roundw
        case rel =>
          refine ⟨j + 1, by omega, by omega, by go_num, fun i h1 h2 => ?_, hbr.trans (hb2'.mono hsr)⟩
          by_cases e : i = j
          · subst e; exact HBO.out
          · exact HNO.out i h1 (by omega)
        case measure => simp [intOf]; omega
    · obtain rfl : j = 4 := by omega
      have hrr := HPN.out HNO.out
      subst hrr
      have hx' := hxr.set2 (.int .i64 0) (.slice none 0 0)
      have hw6 := below_set2 (hbw1.trans (hbr.mono (by omega))) w.heap.size (Nat.le_refl _) (.int .i64 0) (.slice none 0 0)
      obtain ⟨k0, k1, f0, f1⟩ := hxr
      go_wp2
      refine ret_obj (by kernel_rfl) rfl rfl hx'.c0 hx'.c1 rfl ?_
      exact ⟨none, 0, rfl, InB.nil _ _, Nat.le_refl _, fun _ => rfl, hw6⟩

theorem Parse_19 (w : World) (hT : Pow w) (p : Option Addr) (c : Nat) (l : List UInt8) (hi : InB w p l) (hc : l.length ≤ c) (hp : p = none → c = 0) (hl : l.length ≤ 2000) :
    Calls Tryd.prog 19 #[.slice p l.length c] w (RetO (parsed l) w) := by
  by_cases h0 : 0 ≤ Lib.indexByte l 0
  · exact Parse_19_yes w hT p c l hi hc hp hl h0
  · exact Parse_19_no w p c l hi hc hp hl h0
end Go.Proofs.Tre
