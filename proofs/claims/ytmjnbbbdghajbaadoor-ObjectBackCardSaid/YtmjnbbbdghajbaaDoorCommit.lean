/- commit.Right and commit.Print at a record of "A <a>", without text, with whatever parents. -/
import Derived.Test.YtmjnbbbdghajbaaDoorIdent
import Derived.Test.YtmjnbbbdghajbaaDoorIds
import Derived.StillTailTactics
namespace Go.Proofs.Tre
open Go Go.RowKit Go.Proofs

/-- ids in a row -/
def IdsAt (w : World) (b off : Nat) (ps : List ID) : Prop := ∀ j (h : j < ps.length), HasID w b (off + j * 20) ps[j]

theorem IdsAt.below {B : Nat} {w w' : World} {b o : Nat} {ps : List ID} (h : IdsAt w b o ps) (hb : Below B w w') (hlt : b < B) : IdsAt w' b o ps := fun j hj => (h j hj).below hb hlt

theorem Contains_id (b off n c : Nat) (ps : List ID) (x : ID) (w : World) (hz : n ≤ ps.length) (hbig : n ≤ 9223372036854775807) (hc : IdsAt w b off ps) :
    Calls Tryd.prog 58 #[.slice (some ⟨b, off, none⟩) n c, x.v] w fun e w' => e = .returned (.bool ((ps.take n).any fun y => decide (x = y))) ∧ Below w.heap.size w w' :=
  AnyQ.slices_Contains Tryd.laysQ58 20 Tryd.isAgg26 Tryd.sizeOf26 ID.cells ID.cells_length (fun x y => decide (x = y)) ⟨run_eql_id, eqGuard_id⟩ b off n c ps x w hz hbig (fun j hj i v hv => by
    rw [getElem!_pos ps j hj] at hv
    exact hc j hj i v hv)

/-- the cells of a record: parents p -/
abbrev recCells (p : Value) (tx : ByteArray) : Array Value := #[.int .u8 1, .int .u8 0, .int .u8 0, .int .u8 0, .int .u8 0, .int .u8 0, .int .u8 0, .int .u8 0, .int .u8 0, .int .u8 0, .int .u8 0, .int .u8 0, .int .u8 0, .int .u8 0, .int .u8 0, .int .u8 0, .int .u8 0, .int .u8 0, .int .u8 0, .int .u8 0,
  p, .string ⟨#[65]⟩, .string ⟨#[97]⟩, .int .i64 0, .int .i64 0, .string ⟨#[65]⟩, .string ⟨#[97]⟩, .int .i64 0, .int .i64 0, .string tx]

/-- the id 01 00 .. -/
def ID.one : ID := ⟨[1, 0, 0, 0, 0, 0, 0, 0, 0, 0, 0, 0, 0, 0, 0, 0, 0, 0, 0, 0], rfl⟩

theorem has_one (w : World) (p : Value) (tx : ByteArray) (n : Nat) (hn : n = w.heap.size) : HasID (w.alloc (.cells (recCells p tx) 29)) n 0 ID.one := fun i v hv => by
  have hi : i < 20 := by
    have := (List.getElem?_eq_some_iff.1 hv).1
    rwa [ID.cells_length] at this
  rw [World.cell?_alloc_at _ _ _ _ hn, ← hv]
  have e : (recCells p tx).toList = ID.one.cells ++ [p, .string ⟨#[65]⟩, .string ⟨#[97]⟩, .int .i64 0, .int .i64 0, .string ⟨#[65]⟩, .string ⟨#[97]⟩, .int .i64 0, .int .i64 0, .string tx] := rfl
  rw [Nat.zero_add, ← Array.getElem?_toList, e, List.getElem?_append_left (by rw [ID.cells_length]; exact hi)]

attribute [local simp] IsID_drew idOf_drew IsID_drewN idOf_drewN
attribute [local go_sem ↓] exec_load_id exec_store_id exec_eq_id exec_ne_id
attribute [local go_sem] runLoadId_at runStoreId_new runEqId_at runEqId_zero runNeId_at runNeId_zero
attribute [local go_sem] IsID_drew idOf_drew IsID_drewN idOf_drewN IsID_alloc_past idOf_alloc_past IsID_alloc_at idOf_alloc_at

/-- ids in a slice -/
def IdsIn (w : World) (pa : Option Addr) (ps : List ID) : Prop := 0 < ps.length → ∃ b off, pa = some ⟨b, off, none⟩ ∧ b < w.heap.size ∧ IdsAt w b off ps

/-- no parent is zero, none stands there twice -/
def FineTo (ps : List ID) (k : Nat) : Prop := ∀ j (h : j < ps.length), j < k → ps[j] ≠ ID.zero ∧ ((ps.take j).any fun y => decide (ps[j] = y)) = false
open Classical in
noncomputable def RB (ps : List ID) : Bool := decide (FineTo ps ps.length ∧ ps.length ≤ 16)

theorem RB_bad (ps : List ID) (k : Nat) (h : k < ps.length) (hb : ps[k] = ID.zero ∨ ((ps.take k).any fun y => decide (ps[k] = y)) = true) : RB ps = false := by
  simp only [RB, decide_eq_false_iff_not]
  rintro ⟨h1, _⟩
  obtain ⟨a, b⟩ := h1 k h h
  rcases hb with hb | hb
  · exact a hb
  · rw [b] at hb; cases hb

open Classical in
theorem RB_end (ps : List ID) (hf : FineTo ps ps.length) : decide ((ps.length : Int) ≤ 16) = RB ps := by
  unfold RB
  by_cases h : ps.length ≤ 16
  · rw [decide_eq_true (by omega), decide_eq_true ⟨hf, h⟩]
  · rw [decide_eq_false (by omega), decide_eq_false (fun x => h x.2)]

theorem FineTo.succ {ps : List ID} {k : Nat} (h : FineTo ps k) (hk : k < ps.length) (h1 : ps[k] ≠ ID.zero) (h2 : ((ps.take k).any fun y => decide (ps[k] = y)) = false) : FineTo ps (k + 1) := fun j hj hjk => by
  by_cases e : j = k
  · subst e; exact ⟨h1, h2⟩
  · exact h j hj (by omega)

set_option maxHeartbeats 1000000 in
set_option maxRecDepth 100000 in
theorem Right_any (w : World) (pa : Option Addr) (c : Nat) (ps : List ID) (hT : Lib.Utf8Tabs 1 2 w) (hps : IdsIn w pa ps) (hl : ps.length ≤ 1000) (hcap : ps.length ≤ c) (tx : ByteArray) (htx : tx.size ≤ 100) (htz : decide (0 ≤ Lib.indexByte tx.data.toList 0) = false) :
    Calls Tryd.prog 14 #[.agg (recCells (.slice pa ps.length c) tx)] w fun e w' => e = .returned (.bool (RB ps)) ∧ Below w.heap.size w w' := by
  have HTZ := Lib.hid htz
  clear htz
  unfold recCells
  go_enter Tryd.func14, Tryd.ntmps14
  go_wp2_with fail
  generalize hW0 : w.alloc _ = W0
  have HW0 := Lib.hid hW0
  have hbW : Below w.heap.size w W0 := by rw [← hW0]; exact (Below.refl _ _).alloc (Nat.le_refl _) _
  have hsW : W0.heap.size = w.heap.size + 1 := by rw [← hW0]; simp
  have kP : W0.cell? ⟨w.heap.size, 20, none⟩ = some (.slice pa ps.length c) := by rw [← hW0]; simp
  have kO : HasID W0 w.heap.size 0 ID.one := by rw [← hW0]; exact has_one w _ tx _ rfl
  have kAll : ∀ i, W0.cell? ⟨w.heap.size, i, none⟩ = (recCells (.slice pa ps.length c) tx)[i]? := fun i => by rw [← hW0]; exact World.cell?_alloc_at _ _ _ _ rfl
  have KAll := Lib.hid kAll
  have KO := Lib.hid kO
  clear kAll kO
  clear hW0
  go_loopw [8] (fun i wr => ∃ k : Nat, k ≤ ps.length ∧ i = .int .i64 k ∧ FineTo ps k ∧ Below (w.heap.size + 1) W0 wr)
    (fun i _ => ps.length - (intOf i).toNat)
  case atStart => exact ⟨0, Nat.zero_le _, rfl, (fun j _ h => absurd h (Nat.not_lt_zero _)), Below.refl _ _⟩
  case round =>
    obtain ⟨k, hk, rfl, hF, hw⟩ := hrel
    have HF := Lib.hid hF
    clear hF
    by_cases hlt : k < ps.length
    · obtain ⟨b, off, rfl, hbl, hcl⟩ := hps (by omega)
      have hrow := hcl k hlt
      have kP2 := hw.keep (by omega) kP
      have hid : HasID wr b (off + k * 20) ps[k] := (hrow.below hbW hbl).below hw (by omega)
      obtain ⟨x, hx⟩ : ∃ x, ps[k] = x := ⟨_, rfl⟩
      rw [hx] at hid
      have hid1 := hid.is
      have hid2 := hid.of
      clear hrow
      go_wp2_with fail
      by_cases hz : x = ID.zero
      · have hd : decide (x = ID.zero) = true := decide_eq_true hz
        have HR := Lib.hid (RB_bad ps k hlt (Or.inl (hx.trans hz)))
        clear hx hz
        go_quiet (fail)
        go_wp2
        go_ret
        refine ⟨by rw [HR.out]; rfl, ?_⟩
        exact hbW.trans ((hw.mono (by omega)).trans (below_drewN ((Below.refl _ _).alloc (by have := hw.size; omega) _) _))
      · have hd : decide (x = ID.zero) = false := decide_eq_false hz
        have hidn' : HasID (wr.alloc (.cells x.cells.toArray 26)) wr.heap.size 0 x := HasID_alloc_at wr x 26 _ rfl
        have hcl2 : IdsAt wr b off ps := (hcl.below hbW hbl).below hw (by omega)
        have hlw : b < wr.heap.size := by have := hw.size; omega
        have Hx := Lib.hid hx
        clear hx
        generalize hW2 : wr.alloc (.cells x.cells.toArray 26) = W2 at hidn' ⊢
        have hb2 : Below wr.heap.size wr W2 := by rw [← hW2]; exact (Below.refl _ _).alloc (Nat.le_refl _) _
        have hcl3 := hcl2.below hb2 hlw
        have kP3 := hb2.keep (by have := hw.size; omega) kP2
        have hs2 : W2.heap.size = wr.heap.size + 1 := by rw [← hW2]; simp
        have hsr := hw.size
        have HW2 := Lib.hid hW2
        clear hW2 hcl2 hid hid1 hid2
        have hidn := hidn'.is
        have hidv := hidn'.of
        have hk0 : (0 : Int) ≤ (k : Int) := by omega
        have hkc : (k : Int) ≤ (c : Int) := by omega
        go_still_tail 9, (by kernel_rfl)
        change wpList _ _ _ _ _ W2.drew
        have hcl4 : IdsAt W2.drew b off ps := fun j hj => by have := (hcl3 j hj).drewN 1; exact this
        have cc := Contains_id b off k c ps x W2.drew (by omega) (by omega) hcl4
        clear hcl4 hcl3 hcl hidn' hidn hidv hps
        cases hq : (ps.take k).any fun y => decide (x = y) with
        | true =>
          rw [hq] at cc
          have HR := Lib.hid (RB_bad ps k hlt (Or.inr (by rw [Hx.out]; exact hq)))
          clear hq
          go_wp2_with fail
          refine cc.mono ?_
          rintro e w5 ⟨rfl, hb5⟩
          go_wp2
          go_ret
          refine ⟨by rw [HR.out]; rfl, ?_⟩
          exact hbW.trans ((hw.mono (by omega)).trans ((hb2.mono (by omega)).drew.trans (hb5.mono (by simp; omega))))
        | false =>
          rw [hq] at cc
          have HF2 := Lib.hid (HF.out.succ hlt (by rw [Hx.out]; exact hz) (by rw [Hx.out]; exact hq))
          clear hq
          go_wp2_with fail
          refine cc.mono ?_
          rintro e w5 ⟨rfl, hb5⟩
          go_wp2
          go_roundw
          case rel => exact ⟨k + 1, by omega, by go_num, HF2.out, hw.trans ((hb2.mono (by omega)).drew.trans (hb5.mono (by simp; omega)))⟩
          case measure => simp [intOf]; omega
    · obtain rfl : k = ps.length := by omega
      have hRE := RB_end ps HF.out
      have HRE := Lib.hid hRE
      clear hRE
      have kk : ∀ i v, (recCells (.slice pa ps.length c) tx)[i]? = some v → wr.cell? ⟨w.heap.size, i, none⟩ = some v := fun i v h => hw.keep (by omega) (by rw [KAll.out i]; exact h)
      have hO := KO.out.below hw (by omega)
      have o1 := hO.is
      have o2 := hO.of
      have hd1 : decide (ID.one = ID.zero) = false := by decide
      have hsr := hw.size
      by_cases h16 : ps.length ≤ 16
      · have k20 := kk 20 _ rfl
        have k21 := kk 21 _ rfl
        have k22 := kk 22 _ rfl
        have k23 := kk 23 _ rfl
        have k24 := kk 24 _ rfl
        have k25 := kk 25 _ rfl
        have k26 := kk 26 _ rfl
        have k27 := kk 27 _ rfl
        have k28 := kk 28 _ rfl
        have k29 := kk 29 _ rfl
        have hT0 := Utf8Tabs_below hT (hbW.trans (hw.mono (by omega)))
        have HT0 := Lib.hid hT0
        have hRT : RB ps = true := by rw [← HRE.out]; exact decide_eq_true (by omega)
        have HRT := Lib.hid hRT
        clear hRT hT kk hT0 hO
        go_wp2_with fail
        refine (Right_who _ HT0.out).mono ?_
        rintro e w5 ⟨rfl, hb5⟩
        have hs5 := hb5.size
        have l25 := hb5.keep (by omega) k25
        have l26 := hb5.keep (by omega) k26
        have l27 := hb5.keep (by omega) k27
        have l28 := hb5.keep (by omega) k28
        have l29 := hb5.keep (by omega) k29
        clear k20 k21 k22 k23 k24 k25 k26 k27 k28 k29
        have HT5 := Lib.hid (Utf8Tabs_below HT0.out hb5)
        go_wp2_with fail
        refine (Right_who _ HT5.out).mono ?_
        rintro e w6 ⟨rfl, hb6⟩
        have m29 := hb6.keep (by omega) l29
        clear l25 l26 l27 l28 l29
        have cz : Calls Tryd.prog 60 #[.string tx, .string ⟨#[0]⟩] w6 fun e w' => e = .returned (.bool false) ∧ w' = w6 := by
          have := Tryd.strings_Contains_one tx 0 w6
          rw [HTZ.out] at this
          exact this
        go_wp2_with fail
        refine cz.mono ?_
        rintro e w7 ⟨rfl, rfl⟩
        have htn : decide ((tx.size : Int) ≤ 32768) = true := decide_eq_true (by omega)
        go_wp2
        go_ret
        refine ⟨by rw [HRT.out]; rfl, ?_⟩
        exact hbW.trans ((hw.mono (by omega)).trans ((hb5.mono (by omega)).trans (hb6.mono (by omega))))
      · have hRT : RB ps = false := by rw [← HRE.out]; exact decide_eq_false (by omega)
        have HRT := Lib.hid hRT
        have k20 := kk 20 _ rfl
        clear hRT kk hO
        go_wp2
        go_ret
        refine ⟨by rw [HRT.out]; rfl, ?_⟩
        exact hbW.trans (hw.mono (by omega))
end Go.Proofs.Tre
