/- commit.Print at a record of "A <a>", without text, with whatever parents. -/
import Derived.Test.YtmjnbbbdghajbaaDoorCommit
namespace Go.Proofs.Tre
open Go Go.RowKit Go.Proofs

attribute [local simp] IsID_drew idOf_drew IsID_drewN idOf_drewN
attribute [local go_sem ↓] exec_load_id exec_store_id exec_eq_id exec_ne_id
attribute [local go_sem] runLoadId_at runStoreId_new runEqId_at runEqId_zero runNeId_at runNeId_zero
attribute [local go_sem] IsID_drew idOf_drew IsID_drewN idOf_drewN IsID_alloc_past idOf_alloc_past IsID_alloc_at idOf_alloc_at

/-- the lines of parents -/
def parL : List ID → List UInt8
  | [] => []
  | p :: l => [112, 97, 114, 101, 110, 116, 32] ++ hexL p.l ++ [10] ++ parL l
def treeL : List UInt8 := [116, 114, 101, 101, 32] ++ hexL ID.one.l ++ [10]
def whoL : List UInt8 := [65, 32, 60, 97, 62, 32, 48, 32, 43, 48, 48, 48, 48]
def tailL (tx : List UInt8) : List UInt8 := [97, 117, 116, 104, 111, 114, 32] ++ whoL ++ [10, 99, 111, 109, 109, 105, 116, 116, 101, 114, 32] ++ whoL ++ [10, 10] ++ tx
def recL (ps : List ID) (tx : List UInt8) : List UInt8 := treeL ++ parL ps ++ tailL tx

theorem parL_append (a b : List ID) : parL (a ++ b) = parL a ++ parL b := by
  induction a with
  | nil => rfl
  | cons c l ih => simp [parL, ih]
theorem parL_length (a : List ID) : (parL a).length = 48 * a.length := by
  induction a with
  | nil => rfl
  | cons c l ih => simp [parL, ih, hexL_length, c.h]; omega
theorem par_step (l : List ID) (k : Nat) (h : k < l.length) : parL (l.take (k + 1)) = parL (l.take k) ++ ([112, 97, 114, 101, 110, 116, 32] ++ hexL l[k].l ++ [10]) := by
  rw [List.take_succ_eq_append_getElem h, parL_append]; simp [parL]

theorem HasID.inB {w : World} {b o : Nat} {x : ID} (h : HasID w b o x) : InB w (some ⟨b, o, none⟩) x.l := fun _ =>
  ⟨b, o, rfl, h.lt, fun i hi => h i _ (by simp [ID.cells, Lib.byteCells, hi])⟩

/-- what the call of Print carries along: the builder, the box, the tables -/
structure St (w0 : World) (p : Value) (tx : ByteArray) (B b : Nat) (l : List UInt8) (w : World) : Prop where
  bl : IsB B b l w
  bw : Below w0.heap.size w0 w
  tb : Lib.Utf8Tabs 1 2 w0
  hB : B ≤ w.heap.size
  hn : w0.heap.size < B
  bx : ∀ i v, (recCells p tx)[i]? = some v → w.cell? ⟨w0.heap.size, i, none⟩ = some v

theorem St.below {w0 : World} {p : Value} {tx : ByteArray} {B b : Nat} {l : List UInt8} {w w' : World} (h : St w0 p tx B b l w) (hb : Below w.heap.size w w') : St w0 p tx B b l w' :=
  ⟨h.bl.below hb, h.bw.trans (hb.mono h.bw.size), h.tb, Nat.le_trans h.hB hb.size, h.hn, fun i v hv => hb.keep (Nat.lt_of_lt_of_le h.hn h.hB) (h.bx i v hv)⟩

/-- behind a write -/
theorem St.wrote {w0 : World} {p : Value} {tx : ByteArray} {B b : Nat} {l l' : List UInt8} {w w' : World} (h : St w0 p tx B b l w) (hb : IsB B b l' w') (hw : Below B w w') : St w0 p tx B b l' w' :=
  ⟨hb, h.bw.trans (hw.mono (Nat.le_of_lt h.hn)), h.tb, Nat.le_trans h.hB hw.size, h.hn, fun i v hv => hw.keep h.hn (h.bx i v hv)⟩

theorem St.tab {w0 : World} {p : Value} {tx : ByteArray} {B b : Nat} {l : List UInt8} {w : World} (h : St w0 p tx B b l w) : Lib.Utf8Tabs 1 2 w := Utf8Tabs_below h.tb h.bw
theorem St.drew {w0 : World} {p : Value} {tx : ByteArray} {B b : Nat} {l : List UInt8} {w : World} (h : St w0 p tx B b l w) : St w0 p tx B b l w.drew := h.below (Below.refl _ _).drew

theorem St.who {w0 : World} {p : Value} {tx : ByteArray} {B b : Nat} {l : List UInt8} {w : World} (h : St w0 p tx B b l w) :
    Calls Tryd.prog 56 #[.agg #[.string ⟨#[65]⟩, .string ⟨#[97]⟩, .int .i64 0, .int .i64 0]] w fun e w' => e = .returned (.string ⟨#[65, 32, 60, 97, 62, 32, 48, 32, 43, 48, 48, 48, 48]⟩) ∧ St w0 p tx B b l w' :=
  (Print_who w h.tab).mono fun _ _ ⟨h1, h2⟩ => ⟨h1, h.below h2⟩

theorem St.write {w0 : World} {p : Value} {tx : ByteArray} {B b : Nat} {l : List UInt8} {w : World} (h : St w0 p tx B b l w) (s : ByteArray) (hlen : l.length + s.size ≤ 140737488355328) :
    Calls Tryd.prog 54 #[.pointer (some ⟨b, 0, none⟩), .string s] w fun e w' => e = .returned (.tuple #[.int .i64 s.size, .nilIface]) ∧ St w0 p tx B b (l ++ s.data.toList) w' :=
  (B_WriteString B b l s w h.bl hlen h.hB).mono fun _ _ ⟨h1, h2, h3⟩ => ⟨h1, h.wrote h2 h3⟩

set_option maxHeartbeats 2000000 in
set_option maxRecDepth 100000 in
theorem Print_no (w : World) (pa : Option Addr) (c : Nat) (ps : List ID) (hT : Lib.Utf8Tabs 1 2 w) (hps : IdsIn w pa ps) (hl : ps.length ≤ 1000) (hcap : ps.length ≤ c) (tx : ByteArray) (htx : tx.size ≤ 100) (htz : decide (0 ≤ Lib.indexByte tx.data.toList 0) = false) (hR : RB ps = false) :
    Calls Tryd.prog 12 #[.agg (recCells (.slice pa ps.length c) tx)] w fun e w' => e = .returned (.tuple #[.slice none 0 0, .int .i64 4]) ∧ Below w.heap.size w w' := by
  have hb0 : Below w.heap.size w (w.alloc (.cells (recCells (.slice pa ps.length c) tx) 29)) := (Below.refl _ _).alloc (Nat.le_refl _) _
  have hps0 : IdsIn (w.alloc (.cells (recCells (.slice pa ps.length c) tx) 29)) pa ps := fun h => by
    obtain ⟨b, off, e, hlt, hi⟩ := hps h
    exact ⟨b, off, e, by simp; omega, hi.below hb0 hlt⟩
  have cr := Right_any _ pa c ps (Utf8Tabs_below hT hb0) hps0 hl hcap tx htx htz
  rw [hR] at cr
  clear htz
  go_enter Tryd.func12, Tryd.ntmps12
  go_wp2_with (with_reducible refine wpList_load_row rfl 29 (.tmp 1) rfl w.heap.size rfl 29 (recCells (.slice pa ps.length c) tx) (0, 0) _ (heap_alloc_new w _) Tryd.underlying29 rfl (by kernel_rfl) ?_)
  refine cr.mono ?_
  rintro e w1 ⟨rfl, hb1⟩
  go_wp2
  go_ret2
  exact ⟨rfl, hb0.trans (hb1.mono (by simp))⟩

/-- bytes, and an error's number -/
def RetBE (l : List UInt8) (n : Int) (w : World) (e : Ending) (w' : World) : Prop := ∃ v, e = .returned (.tuple #[v, .int .i64 n]) ∧ RetB l w v w'

set_option maxHeartbeats 2000000 in
set_option maxRecDepth 100000 in
theorem Print_yes (w : World) (pa : Option Addr) (c : Nat) (ps : List ID) (hT : Lib.Utf8Tabs 1 2 w) (hps : IdsIn w pa ps) (hl : ps.length ≤ 1000) (hcap : ps.length ≤ c) (tx : ByteArray) (htx : tx.size ≤ 100) (htz : decide (0 ≤ Lib.indexByte tx.data.toList 0) = false) (htc : tx = ⟨#[]⟩ ∨ tx = ⟨#[120]⟩) (hR : RB ps = true) :
    Calls Tryd.prog 12 #[.agg (recCells (.slice pa ps.length c) tx)] w (RetBE (recL ps tx.data.toList) 0 w) := by
  have hb0 : Below w.heap.size w (w.alloc (.cells (recCells (.slice pa ps.length c) tx) 29)) := (Below.refl _ _).alloc (Nat.le_refl _) _
  have hps0 : IdsIn (w.alloc (.cells (recCells (.slice pa ps.length c) tx) 29)) pa ps := fun h => by
    obtain ⟨b, off, e, hlt, hi⟩ := hps h
    exact ⟨b, off, e, by simp; omega, hi.below hb0 hlt⟩
  have cr := Right_any _ pa c ps (Utf8Tabs_below hT hb0) hps0 hl hcap tx htx htz
  rw [hR] at cr
  clear htz
  have kAll : ∀ i v, (recCells (.slice pa ps.length c) tx)[i]? = some v → (w.alloc (.cells (recCells (.slice pa ps.length c) tx) 29)).cell? ⟨w.heap.size, i, none⟩ = some v := fun i v h => by rw [World.cell?_alloc_at _ _ _ _ rfl]; exact h
  have KAll := Lib.hid kAll
  have hO := has_one w (.slice pa ps.length c) tx _ rfl
  have HO := Lib.hid hO
  clear kAll hO
  go_enter Tryd.func12, Tryd.ntmps12
  go_wp2_with (with_reducible refine wpList_load_row rfl 29 (.tmp 1) rfl w.heap.size rfl 29 (recCells (.slice pa ps.length c) tx) (0, 0) _ (heap_alloc_new w _) Tryd.underlying29 rfl (by kernel_rfl) ?_)
  refine cr.mono ?_
  rintro e w1 ⟨rfl, hb1⟩
  have hs1 := hb1.size
  simp only [World.size_alloc] at hs1
  have hst : St w (.slice pa ps.length c) tx w1.heap.size w1.heap.size [] (w1.alloc (.cells #[.pointer none, .slice none 0 0] 87)) :=
    ⟨Lib.fresh_isBuilder 87 5 w1, (hb0.trans (hb1.mono (by simp))).trans ((Below.refl _ _).alloc (by omega) _), hT, by simp, by omega,
      fun i v hv => ((Below.refl w1.heap.size w1).alloc (Nat.le_refl _) _).keep (by omega) (hb1.keep (by simp) (KAll.out i v hv))⟩
  have hOi : InB (w1.alloc (.cells #[.pointer none, .slice none 0 0] 87)) (some ⟨w.heap.size, 0, none⟩) ID.one.l :=
    (((HO.out.below hb1 (by simp)).below ((Below.refl w1.heap.size w1).alloc (Nat.le_refl _) _) (by omega))).inB
  obtain ⟨s0, hs0, hz0⟩ := text_of (hexL ID.one.l)
  rw [hexL_length, ID.one.h] at hz0
  have hz0' : s0.size ≤ 40 := by omega
  clear cr hz0
  have Hs0 := Lib.hid hs0
  go_wp2_with fail
  refine (Hex_n _ _ 20 20 _ s0 hs0 ID.one.h (by omega) hOi).mono ?_
  rintro e w2 ⟨rfl, hb2⟩
  have hst2 := hst.below hb2
  clear hs0
  have HST := Lib.hid (hst2.bx 20 _ rfl)
  go_wp2_with fail
  refine (hst2.write _ (by simp [size_lit]; omega)).mono ?_
  rintro e w3 ⟨rfl, hst3⟩
  have hst3' : St w (.slice pa ps.length c) tx w1.heap.size w1.heap.size (treeL ++ parL (ps.take 0)) w3 := by
    have e : ([] : List UInt8) ++ (({ data := #[116, 114, 101, 101, 32] } ++ s0 ++ { data := #[10] } : ByteArray)).data.toList = treeL ++ parL (ps.take 0) := by
      simp [treeL, parL, Hs0.out]
    rw [← e]; exact hst3
  clear hst3 hst2 hst hOi
  have k20 := hst3'.bx 20 _ rfl
  simp only [show (recCells (Value.slice pa ps.length c) tx)[20] = Value.slice pa ps.length c from rfl] at k20
  go_wp2_with fail
  go_loopw [19] (fun i wr => ∃ k : Nat, k ≤ ps.length ∧ i = .int .i64 k ∧ St w (.slice pa ps.length c) tx w1.heap.size w1.heap.size (treeL ++ parL (ps.take k)) wr)
    (fun i _ => ps.length - (intOf i).toNat)
  case atStart => exact ⟨0, Nat.zero_le _, rfl, hst3'⟩
  case round =>
    obtain ⟨k, hk, rfl, hS⟩ := hrel
    clear hst3' k20
    by_cases hlt : k < ps.length
    · obtain ⟨b, off, rfl, hbl, hcl⟩ := hps (by omega)
      have hid := (hcl k hlt).below hS.bw hbl
      have hstep := par_step ps k hlt
      have hlen : (parL (ps.take k)).length ≤ 48 * ps.length := by rw [parL_length]; simp; omega
      obtain ⟨x, hx⟩ : ∃ x, ps[k] = x := ⟨_, rfl⟩
      rw [hx] at hid hstep
      have hid1 := hid.is
      have hid2 := hid.of
      have Hst := Lib.hid hstep
      have hS2 := hS.below ((Below.refl wr.heap.size wr).alloc (Nat.le_refl _) (.cells x.cells.toArray 26))
      have hIn := (HasID_alloc_at wr x 26 _ rfl).inB
      obtain ⟨s1, hs1', hz1⟩ := text_of (hexL x.l)
      rw [hexL_length, x.h] at hz1
      have hz1' : s1.size ≤ 40 := by omega
      have Hs1 := Lib.hid hs1'
      clear hstep hx hid hcl hps hz1
      go_wp2_with fail
      refine (Hex_n _ _ 20 20 _ s1 hs1' x.h (by omega) hIn).mono ?_
      rintro e w4 ⟨rfl, hb4⟩
      have hS4 := hS2.below hb4
      clear hs1' hIn hS2
      go_wp2_with fail
      refine (hS4.write _ (by simp [treeL, hexL_length, ID.one, size_lit]; omega)).mono ?_
      rintro e w5 ⟨rfl, hS5⟩
      have hS5' : St w (.slice (some ⟨b, off, none⟩) ps.length c) tx w1.heap.size w1.heap.size (treeL ++ parL (ps.take (k + 1))) w5 := by
        rw [Hst.out]
        have e : (treeL ++ parL (ps.take k)) ++ (({ data := #[112, 97, 114, 101, 110, 116, 32] } ++ s1 ++ { data := #[10] } : ByteArray)).data.toList = treeL ++ (parL (ps.take k) ++ ([112, 97, 114, 101, 110, 116, 32] ++ hexL x.l ++ [10])) := by
          simp [Hs1.out]
        rw [← e]; exact hS5
      clear hS5 hS4
      go_wp2_with fail
      go_roundw
      case rel => exact ⟨k + 1, by omega, by go_num, hS5'⟩
      case measure => simp [intOf]; omega
    · obtain rfl : k = ps.length := by omega
      rw [List.take_length] at hS
      rcases htc with rfl | rfl
      · have hS0 := hS.drew
        have k21 := hS.bx 21 _ rfl
        have k22 := hS.bx 22 _ rfl
        have k23 := hS.bx 23 _ rfl
        have k24 := hS.bx 24 _ rfl
        have k25 := hS.bx 25 _ rfl
        have k26 := hS.bx 26 _ rfl
        have k27 := hS.bx 27 _ rfl
        have k28 := hS.bx 28 _ rfl
        have k29 := hS.bx 29 _ rfl
        have hlen : (treeL ++ parL ps).length ≤ 100000 := by simp [treeL, hexL_length, ID.one, parL_length]; omega
        go_wp2_with fail
        go_region_held3 (fun w' => w'.cell? ⟨w.heap.size, 21, none⟩ = some (.string ⟨#[65]⟩) ∧ w'.cell? ⟨w.heap.size, 22, none⟩ = some (.string ⟨#[97]⟩) ∧ w'.cell? ⟨w.heap.size, 23, none⟩ = some (.int .i64 0) ∧ w'.cell? ⟨w.heap.size, 24, none⟩ = some (.int .i64 0) ∧
            w'.cell? ⟨w.heap.size, 25, none⟩ = some (.string ⟨#[65]⟩) ∧ w'.cell? ⟨w.heap.size, 26, none⟩ = some (.string ⟨#[97]⟩) ∧ w'.cell? ⟨w.heap.size, 27, none⟩ = some (.int .i64 0) ∧ w'.cell? ⟨w.heap.size, 28, none⟩ = some (.int .i64 0) ∧ w'.cell? ⟨w.heap.size, 29, none⟩ = some (.string (⟨#[]⟩ : ByteArray)))
          (first | go_keep | (exact ⟨hS7.bx 21 _ rfl, hS7.bx 22 _ rfl, hS7.bx 23 _ rfl, hS7.bx 24 _ rfl, hS7.bx 25 _ rfl, hS7.bx 26 _ rfl, hS7.bx 27 _ rfl, hS7.bx 28 _ rfl, hS7.bx 29 _ rfl⟩))
          ((first | (go_at_call 56; refine (St.who (by assumption)).mono ?_; rintro e w7 ⟨rfl, hS7⟩) | (go_at_call 54; refine (St.write (by assumption) _ (by simp [size_lit] at *; omega)).mono ?_; rintro e w7 ⟨rfl, hS7⟩)))
        have hR7 : St w (.slice pa ps.length c) (⟨#[]⟩ : ByteArray) w1.heap.size w1.heap.size (recL ps (⟨#[]⟩ : ByteArray).data.toList) w7 := by
          have e : (treeL ++ parL ps) ++ (({ data := #[97, 117, 116, 104, 111, 114, 32] } ++ { data := #[65, 32, 60, 97, 62, 32, 48, 32, 43, 48, 48, 48, 48] } ++ { data := #[10, 99, 111, 109, 109, 105, 116, 116, 101, 114, 32] } ++ { data := #[65, 32, 60, 97, 62, 32, 48, 32, 43, 48, 48, 48, 48] } ++ { data := #[10, 10] } ++ (⟨#[]⟩ : ByteArray) : ByteArray)).data.toList = recL ps (⟨#[]⟩ : ByteArray).data.toList := by
            simp [recL, tailL, whoL]
          rw [← e]; exact hS7
        clear hS7 hS0 hS k21 k22 k23 k24 k25 k26 k27 k28 k29 hlen
        obtain ⟨s9, hs9, hz9⟩ := text_of (recL ps (⟨#[]⟩ : ByteArray).data.toList)
        have cS := B_String _ _ (recL ps (⟨#[]⟩ : ByteArray).data.toList) w7 hR7.bl hR7.hB
        rw [← hs9] at cS
        have Hs9 := Lib.hid hs9
        clear hs9 hz9
        have hcb := fun W => conv_bytes W s9
        go_wp2_with fail
        refine cS.mono ?_
        rintro e w8 ⟨rfl, hb8⟩
        go_wp2_with fail
        go_ret2
        obtain ⟨p, cc, hv, h1, h2, h3, h4⟩ := bytes_ret w8 s9
        refine ⟨_, rfl, p, cc, ?_, ?_, h2, ?_, ?_⟩
        · rw [← Hs9.out]; exact hv
        · rw [← Hs9.out]; exact h1
        · rw [← Hs9.out]; exact h3
        · exact hR7.bw.trans ((hb8.mono (Nat.le_of_lt hR7.hn)).trans (h4.mono (by have := hb8.size; have := hR7.bw.size; omega)))
      · have hS0 := hS.drew
        have k21 := hS.bx 21 _ rfl
        have k22 := hS.bx 22 _ rfl
        have k23 := hS.bx 23 _ rfl
        have k24 := hS.bx 24 _ rfl
        have k25 := hS.bx 25 _ rfl
        have k26 := hS.bx 26 _ rfl
        have k27 := hS.bx 27 _ rfl
        have k28 := hS.bx 28 _ rfl
        have k29 := hS.bx 29 _ rfl
        have hlen : (treeL ++ parL ps).length ≤ 100000 := by simp [treeL, hexL_length, ID.one, parL_length]; omega
        go_wp2_with fail
        go_region_held3 (fun w' => w'.cell? ⟨w.heap.size, 21, none⟩ = some (.string ⟨#[65]⟩) ∧ w'.cell? ⟨w.heap.size, 22, none⟩ = some (.string ⟨#[97]⟩) ∧ w'.cell? ⟨w.heap.size, 23, none⟩ = some (.int .i64 0) ∧ w'.cell? ⟨w.heap.size, 24, none⟩ = some (.int .i64 0) ∧
            w'.cell? ⟨w.heap.size, 25, none⟩ = some (.string ⟨#[65]⟩) ∧ w'.cell? ⟨w.heap.size, 26, none⟩ = some (.string ⟨#[97]⟩) ∧ w'.cell? ⟨w.heap.size, 27, none⟩ = some (.int .i64 0) ∧ w'.cell? ⟨w.heap.size, 28, none⟩ = some (.int .i64 0) ∧ w'.cell? ⟨w.heap.size, 29, none⟩ = some (.string (⟨#[120]⟩ : ByteArray)))
          (first | go_keep | (exact ⟨hS7.bx 21 _ rfl, hS7.bx 22 _ rfl, hS7.bx 23 _ rfl, hS7.bx 24 _ rfl, hS7.bx 25 _ rfl, hS7.bx 26 _ rfl, hS7.bx 27 _ rfl, hS7.bx 28 _ rfl, hS7.bx 29 _ rfl⟩))
          ((first | (go_at_call 56; refine (St.who (by assumption)).mono ?_; rintro e w7 ⟨rfl, hS7⟩) | (go_at_call 54; refine (St.write (by assumption) _ (by simp [size_lit] at *; omega)).mono ?_; rintro e w7 ⟨rfl, hS7⟩)))
        have hR7 : St w (.slice pa ps.length c) (⟨#[120]⟩ : ByteArray) w1.heap.size w1.heap.size (recL ps (⟨#[120]⟩ : ByteArray).data.toList) w7 := by
          have e : (treeL ++ parL ps) ++ (({ data := #[97, 117, 116, 104, 111, 114, 32] } ++ { data := #[65, 32, 60, 97, 62, 32, 48, 32, 43, 48, 48, 48, 48] } ++ { data := #[10, 99, 111, 109, 109, 105, 116, 116, 101, 114, 32] } ++ { data := #[65, 32, 60, 97, 62, 32, 48, 32, 43, 48, 48, 48, 48] } ++ { data := #[10, 10] } ++ (⟨#[120]⟩ : ByteArray) : ByteArray)).data.toList = recL ps (⟨#[120]⟩ : ByteArray).data.toList := by
            simp [recL, tailL, whoL]
          rw [← e]; exact hS7
        clear hS7 hS0 hS k21 k22 k23 k24 k25 k26 k27 k28 k29 hlen
        obtain ⟨s9, hs9, hz9⟩ := text_of (recL ps (⟨#[120]⟩ : ByteArray).data.toList)
        have cS := B_String _ _ (recL ps (⟨#[120]⟩ : ByteArray).data.toList) w7 hR7.bl hR7.hB
        rw [← hs9] at cS
        have Hs9 := Lib.hid hs9
        clear hs9 hz9
        have hcb := fun W => conv_bytes W s9
        go_wp2_with fail
        refine cS.mono ?_
        rintro e w8 ⟨rfl, hb8⟩
        go_wp2_with fail
        go_ret2
        obtain ⟨p, cc, hv, h1, h2, h3, h4⟩ := bytes_ret w8 s9
        refine ⟨_, rfl, p, cc, ?_, ?_, h2, ?_, ?_⟩
        · rw [← Hs9.out]; exact hv
        · rw [← Hs9.out]; exact h1
        · rw [← Hs9.out]; exact h3
        · exact hR7.bw.trans ((hb8.mono (Nat.le_of_lt hR7.hn)).trans (h4.mono (by have := hb8.size; have := hR7.bw.size; omega)))

end Go.Proofs.Tre
