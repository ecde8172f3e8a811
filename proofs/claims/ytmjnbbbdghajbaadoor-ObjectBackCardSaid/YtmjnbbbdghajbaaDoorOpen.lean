/- From a row's reading of its arguments to what a walk asks of memory, and back. -/
import Derived.Test.YtmjnbbbdghajbaaDoorNum
import Derived.WideKeyArgs
import Derived.ChangeSlices
import Derived.Lib.SmallJoins
import Derived.Lib.LaidIn
import Derived.Lib.LaidU8T
import Derived.Deep.DeepHandedRow
import Derived.Deep.DeepWitnessRowRef
import Derived.ProofKit
import Derived.SizedLaws
import Derived.SevenTiedAt
namespace Go.Proofs.Tre
open Go Go.Proofs Go.Shelf Go.ChangeShapes Go.WideShapes Go.ChangeAt Go.RowKit Go.Lib

section
variable {H : Type} {enc : TypeId × Value → H}

theorem trodAll_below {P : Program} (hl : laidOutB P = true) {W W' : World} (hb : Below W.heap.size W W') :
    ∀ {ts : List TypeId} {vs : List Value} {ds : List (DataW H)} {p : List MemPlace}, (∀ t ∈ ts, P.readableRec t = true ∧ t < P.types.size) → (∀ x ∈ p, x.block < W.heap.size) →
      DataW.TrodAll enc P W 0 (fun _ => true) true ts vs ds p → DataW.TrodAll enc P W' 0 (fun b => decide (b < W.heap.size)) true ts vs ds p
  | [], [], [], _, _, _, h => h
  | [], [], _ :: _, _, _, _, h => h.elim
  | [], _ :: _, _, _, _, _, h => h.elim
  | _ :: _, [], _, _, _, _, h => h.elim
  | _ :: _, _ :: _, [], _, _, _, h => h.elim
  | t :: ts, v :: vs, d :: ds, p, hr, hp, h => by
    obtain ⟨p1, q, h1, h2, rfl⟩ := h
    refine ⟨p1, q, ?_, trodAll_below hl hb (fun t ht => hr t (List.mem_cons_of_mem _ ht)) (fun x hx => hp x (List.mem_append_right _ hx)) h2, rfl⟩
    have ht := hr t (by simp)
    exact Go.WideElems.Trod_stays hl ht.1 ht.2 h1 (fun x hx => hb.same (hp x (List.mem_append_left _ hx))) (fun x hx => by simpa using hp x (List.mem_append_left _ hx))

theorem rowed {P : Program} {ts : List TypeId} (h : (ts.all fun t => P.readableRec t && decide (t < P.types.size)) = true) : ∀ t ∈ ts, P.readableRec t = true ∧ t < P.types.size := fun t ht => by
  have := List.all_eq_true.1 h t ht
  simpa using this

theorem cells5 : Tryd.prog.cellsOf 5 = 1 := by kernel_rfl

/-- a slice of bytes that came in -/
theorem open_bytes {n : Nat} {W : World} {v : Value} {y : DataW H × List MemPlace} (h : DataW.trod enc Tryd.prog W 0 (fun _ => true) true n 30 [v] = some y) :
    ∃ (p : Option Addr) (c : Nat) (l : List UInt8), v = .slice p l.length c ∧ InB W p l ∧ l.length ≤ c ∧ (p = none → c = 0) := by
  rcases open_ints Tryd.underlying30 Tryd.underlying5 cells5 h with ⟨hcs, hx⟩ | ⟨a, len, cap, zs, hcs, _, hl, hm, hz, hx, hcell, hwz⟩
  · simp only [List.cons.injEq, and_true] at hcs
    exact ⟨none, 0, [], hcs, InB.nil _ _, Nat.le_refl _, fun _ => rfl⟩
  · simp only [List.cons.injEq, and_true] at hcs
    simp only [if_true] at hz
    have hlen : ((zs.take len).map fun n => UInt8.ofNat n.toNat).length = len := by simp; omega
    refine ⟨some a, cap, (zs.take len).map fun n => UInt8.ofNat n.toNat, by rw [hlen]; exact hcs, fun hpos => ?_, by omega, fun h => by cases h⟩
    rw [hlen] at hpos
    obtain ⟨ab, ao, spot⟩ := a
    have hspot : spot = none := by simpa [Addr.add] using World.cell?_spot (hcell 0 (by omega))
    subst hspot
    have h0 := hcell 0 (by omega)
    rw [Addr.add_lit] at h0
    refine ⟨ab, ao, rfl, cell_lt h0, fun i hi => ?_⟩
    rw [hlen] at hi
    have hcj := hcell i (by omega)
    rw [Addr.add_lit] at hcj
    rw [hcj]
    have hb := range_u8 hwz i
    simp only [List.getElem_map, List.getElem_take]
    have e : zs.getD i 0 = zs[i]'(by omega) := by simp [List.getD, List.getElem?_eq_getElem (show i < zs.length by omega)]
    rw [List.getD_eq_getElem?_getD] at e
    rw [e] at hb
    rw [List.getD_eq_getElem?_getD, e]
    congr 2
    simp only [UInt8.toNat_ofNat']
    omega

set_option maxRecDepth 100000 in
theorem open_Bytes {W : World} {v : Value} {d : DataW H} {ps : List MemPlace} {base : Nat} (hval : Value.okWide Tryd.prog W .any base 30 v) (h : DataW.Trod enc Tryd.prog W 0 (fun _ => true) true 30 v d ps) :
    ∃ (p : Option Addr) (c : Nat) (l : List UInt8), v = .slice p l.length c ∧ InB W p l ∧ l.length ≤ c ∧ (p = none → c = 0) := by
  obtain ⟨a1, len, cap, rfl⟩ := okWide_slice Tryd.underlying30 hval
  obtain ⟨fuel, hf⟩ := h
  exact open_bytes hf
end

set_option maxRecDepth 100000 in
/-- the table of powers, out of the row's condition -/
theorem pow_of {l : List (String × DataW Unit)} {W : World} (h : laidMet Tryd.prog l W) (hm : ("internal/strconv.uint64pow10", (tabData .u64 pow10Tab : DataW Unit)) ∈ l) : Pow W := by
  obtain ⟨g', t', cs, fuel, p, hg', ht', hvar, hd⟩ := laidMet.reads h hm
  have hg : Tryd.prog.globalNamed "internal/strconv.uint64pow10" = some 3 := glob3
  have hty : (Tryd.prog.globals[3]?).map (·.type) = some 195 := by kernel_rfl
  obtain rfl := Option.some.inj (hg.symm.trans hg')
  obtain rfl := Option.some.inj (hty.symm.trans ht')
  show TabIs _ _ _ _ _
  unfold TabIs
  rw [hvar, ← cells_of_tab (by kernel_rfl : Tryd.prog.underlying 195 = some (.array 20 109)) (by kernel_rfl : Tryd.prog.underlying 109 = some (.int .u64)) (by kernel_rfl) (by kernel_rfl) hd]
end Go.Proofs.Tre
