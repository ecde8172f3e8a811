/- hexa.Hex returns its bytes as digits of 16; what lay in memory stays. -/
import Derived.Test.YtmjnbbbdghajbaaDoorPlain
import Derived.Test.YtmjnbbbdghajbaaDoorShelfB
import Derived.Test.YtmjnbbbdghajbaaDoorShelf
import Derived.WalkKit
import Derived.Outline
import Derived.Lib.Hide
import Derived.Laws.BitsLemmas
import Derived.Shelf.Bytes.SlEqualAll
import Derived.Lib.ConvBytes
namespace Go.Proofs.Tre
open Go Go.RowKit Go.Proofs

theorem InB.old {w : World} {p : Option Addr} {l : List UInt8} (h : InB w p l) : Lib.BytesIn w p l.length (l.map fun b => (b.toNat : Int)) := fun hl => by
  obtain ⟨b, o, hp, _, hc⟩ := h hl
  refine ⟨b, o, hp, fun i hi => ?_⟩
  rw [hc i hi]
  simp [List.getD, hi]

theorem InB.of_block (w : World) (l : List UInt8) (t : TypeId) (n : Nat) (hn : n = w.heap.size) : InB (w.alloc (.cells (Lib.byteCells l).toArray t)) (some ⟨n, 0, none⟩) l := fun _ => by
  subst hn
  refine ⟨_, _, rfl, by simp, fun i hi => ?_⟩
  rw [Nat.zero_add, World.cell?_alloc_at _ _ _ _ rfl]
  simp [Lib.byteCells, hi]

theorem bytesOf_nat (l : List UInt8) : Lib.bytesOf (l.map fun b => (b.toNat : Int)) = l := by
  unfold Lib.bytesOf
  rw [List.map_map]
  conv => rhs; rw [← List.map_id l]
  apply List.map_congr_left
  intro b _
  simp

/-- string(b) -/
theorem conv_str (w : World) (p : Option Addr) (c : Nat) (l : List UInt8) (n : Nat) (hn : n = l.length) (h : InB w p l) : (convert 30 9 (.slice p n c)).run Tryd.prog w = .ok (.string ⟨l.toArray⟩) w := by
  subst hn
  have := h.old.convert (P := Tryd.prog) (by simp) c 30 5 9 Tryd.underlying30 Tryd.underlying5 Tryd.underlying9
  rw [this]
  have hb : strOfNums (l.map fun b => (b.toNat : Int)) = ⟨(Lib.bytesOf (l.map fun b => (b.toNat : Int))).toArray⟩ := rfl
  rw [hb, bytesOf_nat]

/-- a builder in memory -/
abbrev IsB (B b : Nat) (l : List UInt8) (w : World) : Prop := Lib.IsBuilder 87 5 B b (Lib.byteCells l) w

theorem ownsRow_below {w w' : World} {B : Nat} {e : TypeId} {sz : Nat} {v : Value} {n : Nat} {xs : List Value} (h : w.ownsRow B e sz v n xs) (hb : Below w.heap.size w w') : w'.ownsRow B e sz v n xs := by
  obtain ⟨h1, h2⟩ := h
  refine ⟨h1, ?_⟩
  rcases h2 with h2 | ⟨g, cap, cur, hv, hg, hh, r⟩
  · exact Or.inl h2
  · have hlt : g < w.heap.size := by
      rcases Nat.lt_or_ge g w.heap.size with h' | h'
      · exact h'
      · rw [Array.getElem?_eq_none h'] at hh; cases hh
    exact Or.inr ⟨g, cap, cur, hv, hg, by rw [hb.block g hlt]; exact hh, r⟩

theorem IsB.below {B b : Nat} {l : List UInt8} {w w' : World} (h : IsB B b l w) (hb : Below w.heap.size w w') : IsB B b l w' := by
  rcases h with h | h
  all_goals
    have hlt := h.lt
    obtain ⟨hB, v, hh, ho, hn⟩ := h
  · exact Or.inl ⟨hB, v, by rw [hb.block b hlt]; exact hh, ownsRow_below ho hb, hn⟩
  · exact Or.inr ⟨hB, v, by rw [hb.block b hlt]; exact hh, ownsRow_below ho hb, hn⟩

theorem below_drewN {B : Nat} {a w : World} (h : Below B a w) (q : Nat) : Below B a (w.drewN q) := ⟨h.os, h.tape, h.output, h.size, h.block⟩

/-- it returns a slice of these bytes; what lay stays -/
def RetB (l : List UInt8) (w : World) (v : Value) (w' : World) : Prop := ∃ p c, v = .slice p l.length c ∧ l.length ≤ c ∧ (p = none → c = 0) ∧ InB w' p l ∧ Below w.heap.size w w'

/-- []byte(s) -/
theorem conv_bytes (w : World) (s : ByteArray) : (convert 9 30 (.string s)).run Tryd.prog w = .ok (.slice (some ⟨w.heap.size, 0, none⟩) s.size (grownCap w s.size 0 5)) (Lib.bytesWorld w 5 s) :=
  Lib.run_convert_string_bytes w 9 30 5 s Tryd.underlying9 Tryd.underlying30 Tryd.underlying5

theorem bytes_below (w : World) (s : ByteArray) : Below w.heap.size w (Lib.bytesWorld w 5 s) :=
  ⟨rfl, rfl, rfl, by rw [Lib.bytesWorld_size]; omega, fun k hk => Lib.bytesWorld_at_old w 5 s k hk⟩

theorem bytes_in (w : World) (s : ByteArray) : InB (Lib.bytesWorld w 5 s) (some ⟨w.heap.size, 0, none⟩) s.data.toList := fun _ => by
  refine ⟨_, _, rfl, by rw [Lib.bytesWorld_size]; omega, fun i hi => ?_⟩
  have hi' : i < s.size := by rw [Lib.size_eq]; exact hi
  rw [Nat.zero_add, Lib.bytesWorld_cell w 5 s i hi']
  simp [List.getD, hi']

theorem bytes_ret (w : World) (s : ByteArray) : RetB s.data.toList w (.slice (some ⟨w.heap.size, 0, none⟩) s.size (grownCap w s.size 0 5)) (Lib.bytesWorld w 5 s) :=
  ⟨_, _, by rw [Lib.size_eq], by rw [← Lib.size_eq]; exact grownCap_ge _ _ _ _, (fun h => by cases h), bytes_in w s, bytes_below w s⟩

theorem B_WriteByte (B b : Nat) (l : List UInt8) (c : Int) (w : World) (h : IsB B b l w) (hlen : l.length + 1 ≤ 140737488355328) (hBw : B ≤ w.heap.size) (d : UInt8) (hd : (d.toNat : Int) = c) :
    Calls Tryd.prog 95 #[.pointer (some ⟨b, 0, none⟩), .int .u8 c] w fun e w' => e = .returned .nilIface ∧ IsB B b (l ++ [d]) w' ∧ Below B w w' :=
  (Any.Builder_WriteByte Tryd.lays167 Tryd.bExtra B b (Lib.byteCells l) c w h (by simpa [Lib.byteCells] using hlen) hBw).mono fun e w' ⟨h1, h2, h3⟩ =>
    ⟨h1, Or.inr (by subst hd; rw [Lib.byteCells_append]; exact h2), h3⟩

theorem B_WriteString (B b : Nat) (l : List UInt8) (s : ByteArray) (w : World) (h : IsB B b l w) (hlen : l.length + s.size ≤ 140737488355328) (hBw : B ≤ w.heap.size) :
    Calls Tryd.prog 54 #[.pointer (some ⟨b, 0, none⟩), .string s] w fun e w' => e = .returned (.tuple #[.int .i64 s.size, .nilIface]) ∧ IsB B b (l ++ s.data.toList) w' ∧ Below B w w' :=
  (Any.Builder_WriteString Tryd.lays166 Tryd.bExtra B b (Lib.byteCells l) s w h (by simpa [Lib.byteCells] using hlen) hBw).mono fun e w' ⟨h1, h2, h3⟩ =>
    ⟨h1, Or.inr (by rw [Lib.byteCells_append, ← Lib.strCells_eq]; exact h2), h3⟩

theorem B_String (B b : Nat) (l : List UInt8) (w : World) (h : IsB B b l w) (hBw : B ≤ w.heap.size) :
    Calls Tryd.prog 57 #[.pointer (some ⟨b, 0, none⟩)] w fun e w' => e = .returned (.string ⟨l.toArray⟩) ∧ Below B w w' :=
  Tryd.Builder_String_any B b l w h hBw

theorem dig_hi (x : UInt8) (h) : ((⟨#[48, 49, 50, 51, 52, 53, 54, 55, 56, 57, 97, 98, 99, 100, 101, 102]⟩ : ByteArray)[x.toNat / 16]'h) = dig (x >>> 4) := by
  have : ∀ x : Fin 256, (#[48, 49, 50, 51, 52, 53, 54, 55, 56, 57, 97, 98, 99, 100, 101, 102] : Array UInt8)[x.val / 16]? = some (dig (UInt8.ofNat x.val >>> 4)) := by decide +kernel
  have h1 := this ⟨x.toNat, x.toNat_lt⟩
  simp only [UInt8.ofNat_toNat] at h1
  rw [Array.getElem?_eq_getElem h] at h1
  exact Option.some.inj h1

theorem dig_lo (x : UInt8) (h) : ((⟨#[48, 49, 50, 51, 52, 53, 54, 55, 56, 57, 97, 98, 99, 100, 101, 102]⟩ : ByteArray)[x.toNat % 16]'h) = dig (x &&& 15) := by
  have : ∀ x : Fin 256, (#[48, 49, 50, 51, 52, 53, 54, 55, 56, 57, 97, 98, 99, 100, 101, 102] : Array UInt8)[x.val % 16]? = some (dig (UInt8.ofNat x.val &&& 15)) := by decide +kernel
  have h1 := this ⟨x.toNat, x.toNat_lt⟩
  simp only [UInt8.ofNat_toNat] at h1
  rw [Array.getElem?_eq_getElem h] at h1
  exact Option.some.inj h1

theorem hex_step (l : List UInt8) (k : Nat) (h : k < l.length) : hexL (l.take (k + 1)) = (hexL (l.take k) ++ [dig (l[k] >>> 4)]) ++ [dig (l[k] &&& 15)] := by
  rw [List.take_succ_eq_append_getElem h, hexL_append]; simp [hexL]

set_option maxHeartbeats 400000 in
theorem Hex_any (w : World) (p : Option Addr) (c : Nat) (l : List UInt8) (hn : l.length ≤ 17592186044416) (hb : InB w p l) :
    Calls Tryd.prog 55 #[.slice p l.length c] w fun e w' => e = .returned (.string ⟨(hexL l).toArray⟩) ∧ Below w.heap.size w w' := by
  go_enter Tryd.func55, Tryd.ntmps55
  go_wp2_with fail
  go_loopw [8] (fun i wr => ∃ k : Nat, k ≤ l.length ∧ i = .int .i64 k ∧ IsB w.heap.size w.heap.size (hexL (l.take k)) wr ∧ Below w.heap.size w wr)
    (fun i _ => l.length - (intOf i).toNat)
  case atStart => exact ⟨0, Nat.zero_le _, rfl, Lib.fresh_isBuilder 87 5 w, (Below.refl _ _).alloc (Nat.le_refl _) _⟩
  case round =>
    obtain ⟨k, hk, rfl, hB, hw⟩ := hrel
    by_cases hlt : k < l.length
    · obtain ⟨b, o, rfl, hbl, hcl⟩ := hb (by omega)
      have hck := hcl k hlt
      have hc2 : wr.cell? ⟨b, o + k, none⟩ = some (.int .u8 (l[k].toNat : Int)) := by rw [hw.cell (p := ⟨b, o + k, none⟩) hbl]; exact hck
      have hstep := hex_step l k hlt
      have hlen : (hexL (l.take k)).length ≤ 2 * l.length := by rw [hexL_length]; simp; omega
      clear hck hcl hb
      obtain ⟨x, hx⟩ : ∃ x, l[k] = x := ⟨_, rfl⟩
      rw [hx] at hc2 hstep
      have Hs := Lib.hid hstep
      clear hstep hx
      have hxlt : x.toNat < 256 := x.toNat_lt
      have hsz := hw.size
      go_wp2_with fail
      refine (B_WriteByte _ _ _ _ _ hB (by omega) hsz (dig (x >>> 4)) (by rw [dig_hi])).mono ?_
      rintro e w1 ⟨rfl, hB1, hw1⟩
      have hsz1 := hw1.size
      go_wp2_with fail
      refine (B_WriteByte _ _ _ _ _ hB1 (by simp; omega) (by omega) (dig (x &&& 15)) (by rw [dig_lo])).mono ?_
      rintro e w2 ⟨rfl, hB2, hw2⟩
      go_wp2_with fail
      go_roundw
      case rel => exact ⟨k + 1, by omega, by go_num, by rw [Hs.out]; exact hB2, (hw.trans hw1).trans hw2⟩
      case measure => simp [intOf]; omega
    · obtain rfl : k = l.length := by omega
      rw [List.take_length] at hB
      go_wp2_with fail
      refine (B_String _ _ _ _ hB hw.size).mono ?_
      rintro e w1 ⟨rfl, hw1⟩
      go_wp2
      go_ret
      exact ⟨rfl, hw.trans hw1⟩
/-- .. the length and the text by names of their own -/
theorem Hex_n (w : World) (p : Option Addr) (n c : Nat) (l : List UInt8) (s : ByteArray) (hs : s.data.toList = hexL l) (hl : l.length = n) (hn : n ≤ 17592186044416) (hb : InB w p l) :
    Calls Tryd.prog 55 #[.slice p n c] w fun e w' => e = .returned (.string s) ∧ Below w.heap.size w w' := by
  subst hl
  have e : s = ⟨(hexL l).toArray⟩ := by rw [← hs]
  rw [e]
  exact Hex_any w p c l hn hb

/-- a text of these bytes -/
theorem text_of (l : List UInt8) : ∃ s : ByteArray, s.data.toList = l ∧ s.size = l.length := ⟨⟨l.toArray⟩, rfl, by rw [Lib.size_eq]⟩
end Go.Proofs.Tre
