/- object.Id, trestleref07.Id, trestlelaw07.awake. -/
import Derived.Test.YtmjnbbbdghajbaaDoorShaR
namespace Go.Proofs.Tre
open Go Go.RowKit Go.Proofs

/-- an object's id -/
def idO (k : Int) (l : List UInt8) : ID := if IsKind k then sumID (objL k l) else ID.zero

theorem itoa_len (n : Nat) (h : n ≤ 2000) : (Lib.itoa n).length ≤ 4 := by
  unfold Lib.itoa
  rw [if_neg (by omega)]
  exact dec_len 4 _ (by omega) (by simp; omega)

theorem objL_len (k : Int) (l : List UInt8) (h : l.length ≤ 2000) : (objL k l).length ≤ l.length + 12 := by
  have h1 := word_len k
  have h2 := itoa_len l.length h
  have h3 := Lib.size_eq (wordS k)
  unfold objL headL
  simp only [List.length_append, List.length_cons, List.length_nil]
  omega

theorem objL_pos (k : Int) (l : List UInt8) : 0 < (objL k l).length := by
  unfold objL headL
  simp only [List.length_append, List.length_cons, List.length_nil]
  omega

theorem cells_size (s : ID) : s.cells.toArray.size = 20 := by simp [s.cells_length]

theorem id_there {w w' : World} {g : Nat} (h : w.there g 0 20) (hb : Below w.heap.size w w') (hg : g < w.heap.size) : w'.there g 0 20 := fun j hj => by
  rw [hb.cell (p := ⟨g, 0 + j, none⟩) hg, hb.frozen (p := ⟨g, 0 + j, none⟩) hg]
  exact h j hj

set_option maxHeartbeats 1000000 in
set_option maxRecDepth 100000 in
theorem Id_22_yes (k : Int) (hk : IsKind k) (w : World) (hT : Pow w) (p : Option Addr) (c : Nat) (l : List UInt8) (hi : InB w p l) (hl : l.length ≤ 2000) :
    Calls Tryd.prog 22 #[.agg #[.int .i64 k, .slice p l.length c]] w fun e w' => e = .returned (sumID (objL k l)).v ∧ Below w.heap.size w w' := by
  obtain ⟨z26, hz26, hzv26⟩ := zv26
  have hlen := objL_len k l hl
  have hpos := objL_pos k l
  have cp := fun W h1 h2 => Print_17_yes k hk W h1 p c l h2 hl
  obtain ⟨m, hm⟩ : ∃ m, objL k l = m := ⟨_, rfl⟩
  have cs := fun W (g : Nat) p1 c1 h1 h2 => Sum_69 W g p1 c1 m h1 h2 (by rw [← hm]; exact hpos) (by rw [← hm]; omega)
  rw [hm] at hlen hpos ⊢
  obtain ⟨s, hs⟩ : ∃ s, sumID m = s := ⟨_, rfl⟩
  simp only [hm] at cp
  rw [hs]
  simp only [hs] at cs
  have CS := Lib.hid cs
  have CP := Lib.hid cp
  clear cs cp hs hm
  go_enter Tryd.func22, Tryd.ntmps22
  go_wp2_with ((with_reducible refine wpList_alloc_arr (op := ⟨some 2, _, _, _, _, _⟩) rfl 26 rfl z26 hzv26 ?_; intro wA hA hbA hsA; have k0 := hbA.keep (b := w.heap.size) (o := 0) (v := .int .i64 k) (by simp) (by simp [go_sem]); have k1 := hbA.keep (b := w.heap.size) (o := 1) (v := .slice p l.length c) (by simp) (by simp [go_sem])))
  simp only [World.size_alloc] at hsA hbA
  rw [hz26] at hA
  have hbw : Below w.heap.size w wA := ((Below.refl _ _).alloc (Nat.le_refl _) _).trans (hbA.mono (by omega))
  simp only [World.size_alloc] at hA
  refine (CP.out wA (hT.below hbw) (hi.below hbw)).mono ?_
  rintro e w1 ⟨v, rfl, p1, c1, rfl, hc1, hp1, hi1, hb1⟩
  have hs1 := hb1.size
  have hA1 := id_there hA hb1 (by omega)
  have hb2 := hbw.trans (hb1.mono (by omega))
  have hia : InB (w1.alloc (.cells #[.slice p1 m.length c1] 30)) p1 m := hi1.below ((Below.refl _ _).alloc (Nat.le_refl _) _)
  have hA2 := id_there hA1 ((Below.refl _ _).alloc (Nat.le_refl _) (.cells #[.slice p1 m.length c1] 30)) (by omega)
  have hb3 : Below w.heap.size w (w1.alloc (.cells #[.slice p1 m.length c1] 30)) := hb2.alloc (by omega) _
  clear hi1 hA hA1 hbA hbw hb1 hi hT hb2 k0 k1
  go_wp2_with fail
  refine (CS.out _ _ p1 c1 (by simp [go_sem]) hia).mono ?_
  rintro e w2 ⟨rfl, hb4⟩
  have hA3 := id_there hA2 hb4 (by simp; omega)
  have hb5 := hb3.trans (hb4.mono (by simp; omega))
  have hth : w2.there (w.heap.size + 1) 0 s.cells.toArray.size := by rw [cells_size s]; exact hA3
  have hsz : (Tryd.prog.info? 26).map (·.size) = some s.cells.toArray.size := by rw [cells_size s]; kernel_rfl
  have hrr := World.rangeAt_setCells_same w2 (w.heap.size + 1) 0 s.cells (by simpa using hth)
  have hbb := below_setCells hb5 (w.heap.size + 1) (by omega) s.cells 0
  have HRR := Lib.hid hrr
  have HBB := Lib.hid hbb
  clear hrr hbb hb5 hA3 hA2 hb3 hb4 hia
  go_wp2_with (with_reducible refine wpList_store_mid rfl 26 (.tmp 2) (.tmp 15) rfl (w.heap.size + 1) 0 s.cells.toArray rfl rfl hth hsz (all_oneCell_toArray (id_one s)) ?_)
  refine ret_arr (t := 2) (ty := 26) (by kernel_rfl) rfl HRR.out Tryd.underlying26 rfl (by simpa using hsz) rfl ?_
  exact ⟨rfl, HBB.out⟩

set_option maxHeartbeats 1000000 in
set_option maxRecDepth 100000 in
theorem Id_23_yes (k : Int) (hk : IsKind k) (w : World) (p : Option Addr) (c : Nat) (l : List UInt8) (hi : InB w p l) (hl : l.length ≤ 2000) :
    Calls Tryd.prog 23 #[.agg #[.int .i64 k, .slice p l.length c]] w fun e w' => e = .returned (sumID (objL k l)).v ∧ Below w.heap.size w w' := by
  obtain ⟨z26, hz26, hzv26⟩ := zv26
  have hlen := objL_len k l hl
  have hpos := objL_pos k l
  have cp := fun W h2 => Print_18_yes k hk W p c l h2 hl
  obtain ⟨m, hm⟩ : ∃ m, objL k l = m := ⟨_, rfl⟩
  have cs := fun W p1 c1 h2 => Sum_28 W p1 c1 m h2 (by rw [← hm]; omega)
  rw [hm] at hlen hpos ⊢
  obtain ⟨s, hs⟩ : ∃ s, sumID m = s := ⟨_, rfl⟩
  simp only [hm] at cp
  rw [hs]
  simp only [hs] at cs
  have CS := Lib.hid cs
  have CP := Lib.hid cp
  clear cs cp hs hm
  go_enter Tryd.func23, Tryd.ntmps23
  go_wp2_with ((with_reducible refine wpList_alloc_arr (op := ⟨some 2, _, _, _, _, _⟩) rfl 26 rfl z26 hzv26 ?_; intro wA hA hbA hsA; have k0 := hbA.keep (b := w.heap.size) (o := 0) (v := .int .i64 k) (by simp) (by simp [go_sem]); have k1 := hbA.keep (b := w.heap.size) (o := 1) (v := .slice p l.length c) (by simp) (by simp [go_sem])))
  simp only [World.size_alloc] at hsA hbA
  rw [hz26] at hA
  have hbw : Below w.heap.size w wA := ((Below.refl _ _).alloc (Nat.le_refl _) _).trans (hbA.mono (by omega))
  simp only [World.size_alloc] at hA
  refine (CP.out wA (hi.below hbw)).mono ?_
  rintro e w1 ⟨v, rfl, p1, c1, rfl, hc1, hp1, hi1, hb1⟩
  have hs1 := hb1.size
  have hA1 := id_there hA hb1 (by omega)
  have hb2 := hbw.trans (hb1.mono (by omega))
  clear hA hbA hbw hb1 hi k0 k1
  go_wp2_with fail
  refine (CS.out _ p1 c1 hi1).mono ?_
  rintro e w2 ⟨rfl, hb4⟩
  have hA3 := id_there hA1 hb4 (by omega)
  have hb5 := hb2.trans (hb4.mono (by omega))
  have hth : w2.there (w.heap.size + 1) 0 s.cells.toArray.size := by rw [cells_size s]; exact hA3
  have hsz : (Tryd.prog.info? 26).map (·.size) = some s.cells.toArray.size := by rw [cells_size s]; kernel_rfl
  have hrr := World.rangeAt_setCells_same w2 (w.heap.size + 1) 0 s.cells (by simpa using hth)
  have hbb := below_setCells hb5 (w.heap.size + 1) (by omega) s.cells 0
  have HRR := Lib.hid hrr
  have HBB := Lib.hid hbb
  clear hrr hbb hb5 hA3 hA1 hb2 hb4 hi1
  go_wp2_with (with_reducible refine wpList_store_mid rfl 26 (.tmp 2) (.tmp 14) rfl (w.heap.size + 1) 0 s.cells.toArray rfl rfl hth hsz (all_oneCell_toArray (id_one s)) ?_)
  refine ret_arr (t := 2) (ty := 26) (by kernel_rfl) rfl HRR.out Tryd.underlying26 rfl (by simpa using hsz) rfl ?_
  exact ⟨rfl, HBB.out⟩

set_option maxHeartbeats 1000000 in
set_option maxRecDepth 100000 in
theorem Id_22_no (k : Int) (hk : ¬ IsKind k) (w : World) (p : Option Addr) (n c : Nat) :
    Calls Tryd.prog 22 #[.agg #[.int .i64 k, .slice p n c]] w fun e w' => e = .returned ID.zero.v ∧ Below w.heap.size w w' := by
  obtain ⟨z26, hz26, hzv26⟩ := zv26
  have CP := Lib.hid (fun W => Print_17_no k hk W p n c)
  go_enter Tryd.func22, Tryd.ntmps22
  go_wp2_with ((with_reducible refine wpList_alloc_arr (op := ⟨some 2, _, _, _, _, _⟩) rfl 26 rfl z26 hzv26 ?_; intro wA hA hbA hsA; have k0 := hbA.keep (b := w.heap.size) (o := 0) (v := .int .i64 k) (by simp) (by simp [go_sem]); have k1 := hbA.keep (b := w.heap.size) (o := 1) (v := .slice p n c) (by simp) (by simp [go_sem])))
  simp only [World.size_alloc] at hsA hbA
  rw [hz26] at hA
  have hbw : Below w.heap.size w wA := ((Below.refl _ _).alloc (Nat.le_refl _) _).trans (hbA.mono (by omega))
  simp only [World.size_alloc] at hA
  clear hzv26
  refine (CP.out wA).mono ?_
  rintro e w1 ⟨v, rfl, p1, c1, rfl, hc1, hp1, hi1, hb1⟩
  have hs1 := hb1.size
  have hA1 := id_there hA hb1 (by omega)
  have hb2 := hbw.trans (hb1.mono (by omega))
  have hth : w1.there (w.heap.size + 1) 0 ID.zero.cells.toArray.size := by rw [cells_size ID.zero]; exact hA1
  have hsz : (Tryd.prog.info? 26).map (·.size) = some ID.zero.cells.toArray.size := by rw [cells_size ID.zero]; kernel_rfl
  have hrr := World.rangeAt_setCells_same w1 (w.heap.size + 1) 0 ID.zero.cells (by simpa using hth)
  have hbb := below_setCells hb2 (w.heap.size + 1) (by omega) ID.zero.cells 0
  have HRR := Lib.hid hrr
  have HBB := Lib.hid hbb
  clear hrr hbb hA1 hA hbA hbw hb1 k0 k1 hi1 hb2
  go_wp2_with (refine wpList_store_mid (op := ⟨none, .store 26 (.tmp 2) (.tmp 12), _, _, _, _⟩) rfl 26 (.tmp 2) (.tmp 12) rfl (w.heap.size + 1) 0 ID.zero.cells.toArray rfl rfl hth hsz (all_oneCell_toArray (id_one ID.zero)) ?_)
  refine ret_arr (t := 2) (ty := 26) (by kernel_rfl) rfl HRR.out Tryd.underlying26 rfl (by simpa using hsz) rfl ?_
  exact ⟨rfl, HBB.out⟩

set_option maxHeartbeats 1000000 in
set_option maxRecDepth 100000 in
theorem Id_23_no (k : Int) (hk : ¬ IsKind k) (w : World) (p : Option Addr) (n c : Nat) :
    Calls Tryd.prog 23 #[.agg #[.int .i64 k, .slice p n c]] w fun e w' => e = .returned ID.zero.v ∧ Below w.heap.size w w' := by
  obtain ⟨z26, hz26, hzv26⟩ := zv26
  have CP := Lib.hid (fun W => Print_18_no k hk W p n c)
  go_enter Tryd.func23, Tryd.ntmps23
  go_wp2_with ((with_reducible refine wpList_alloc_arr (op := ⟨some 2, _, _, _, _, _⟩) rfl 26 rfl z26 hzv26 ?_; intro wA hA hbA hsA; have k0 := hbA.keep (b := w.heap.size) (o := 0) (v := .int .i64 k) (by simp) (by simp [go_sem]); have k1 := hbA.keep (b := w.heap.size) (o := 1) (v := .slice p n c) (by simp) (by simp [go_sem])))
  simp only [World.size_alloc] at hsA hbA
  rw [hz26] at hA
  have hbw : Below w.heap.size w wA := ((Below.refl _ _).alloc (Nat.le_refl _) _).trans (hbA.mono (by omega))
  simp only [World.size_alloc] at hA
  clear hzv26
  refine (CP.out wA).mono ?_
  rintro e w1 ⟨v, rfl, p1, c1, rfl, hc1, hp1, hi1, hb1⟩
  have hs1 := hb1.size
  have hA1 := id_there hA hb1 (by omega)
  have hb2 := hbw.trans (hb1.mono (by omega))
  have hth : w1.there (w.heap.size + 1) 0 ID.zero.cells.toArray.size := by rw [cells_size ID.zero]; exact hA1
  have hsz : (Tryd.prog.info? 26).map (·.size) = some ID.zero.cells.toArray.size := by rw [cells_size ID.zero]; kernel_rfl
  have hrr := World.rangeAt_setCells_same w1 (w.heap.size + 1) 0 ID.zero.cells (by simpa using hth)
  have hbb := below_setCells hb2 (w.heap.size + 1) (by omega) ID.zero.cells 0
  have HRR := Lib.hid hrr
  have HBB := Lib.hid hbb
  clear hrr hbb hA1 hA hbA hbw hb1 k0 k1 hi1 hb2
  go_wp2_with (refine wpList_store_mid (op := ⟨none, .store 26 (.tmp 2) (.tmp 12), _, _, _, _⟩) rfl 26 (.tmp 2) (.tmp 12) rfl (w.heap.size + 1) 0 ID.zero.cells.toArray rfl rfl hth hsz (all_oneCell_toArray (id_one ID.zero)) ?_)
  refine ret_arr (t := 2) (ty := 26) (by kernel_rfl) rfl HRR.out Tryd.underlying26 rfl (by simpa using hsz) rfl ?_
  exact ⟨rfl, HBB.out⟩

theorem Id_22 (k : Int) (w : World) (hT : Pow w) (p : Option Addr) (c : Nat) (l : List UInt8) (hi : InB w p l) (hl : l.length ≤ 2000) :
    Calls Tryd.prog 22 #[.agg #[.int .i64 k, .slice p l.length c]] w fun e w' => e = .returned (idO k l).v ∧ Below w.heap.size w w' := by
  unfold idO
  by_cases hk : IsKind k
  · rw [if_pos hk]; exact Id_22_yes k hk w hT p c l hi hl
  · rw [if_neg hk]; exact Id_22_no k hk w p _ c

theorem Id_23 (k : Int) (w : World) (p : Option Addr) (c : Nat) (l : List UInt8) (hi : InB w p l) (hl : l.length ≤ 2000) :
    Calls Tryd.prog 23 #[.agg #[.int .i64 k, .slice p l.length c]] w fun e w' => e = .returned (idO k l).v ∧ Below w.heap.size w w' := by
  unfold idO
  by_cases hk : IsKind k
  · rw [if_pos hk]; exact Id_23_yes k hk w p c l hi hl
  · rw [if_neg hk]; exact Id_23_no k hk w p _ c
end Go.Proofs.Tre
