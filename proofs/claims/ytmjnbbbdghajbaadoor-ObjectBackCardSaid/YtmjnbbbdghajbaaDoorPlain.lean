/- Plain words of bytes: digits of 16, ids, and how bytes lie in memory. -/
import Derived.Lib.UnsafeStr
import Derived.Shelf.Bytes.SlSmallAll
import Derived.Lib.Builder
namespace Go.Proofs.Tre
open Go Go.RowKit

theorem size_lit (a : Array UInt8) : (⟨a⟩ : ByteArray).size = a.size := rfl

/-- a digit of 16 -/
def dig (n : UInt8) : UInt8 := if n < 10 then 48 + n else 87 + n
/-- bytes as digits of 16 -/
def hexL : List UInt8 → List UInt8
  | [] => []
  | c :: l => dig (c >>> 4) :: dig (c &&& 15) :: hexL l

theorem hexL_append (a b : List UInt8) : hexL (a ++ b) = hexL a ++ hexL b := by
  induction a with
  | nil => rfl
  | cons c l ih => simp [hexL, ih]

theorem hexL_length (a : List UInt8) : (hexL a).length = 2 * a.length := by
  induction a with
  | nil => rfl
  | cons c l ih => simp [hexL, ih]; omega

/-- the bytes l lie in memory at p -/
def InB (w : World) (p : Option Addr) (l : List UInt8) : Prop := 0 < l.length → ∃ b o, p = some ⟨b, o, none⟩ ∧ b < w.heap.size ∧ ∀ i (h : i < l.length), w.cell? ⟨b, o + i, none⟩ = some (.int .u8 (l[i].toNat : Int))

theorem cell_lt {w : World} {a : Addr} {v : Value} (h : w.cell? a = some v) : a.block < w.heap.size := by
  unfold World.cell? at h
  rcases Nat.lt_or_ge a.block w.heap.size with h' | h'
  · exact h'
  · rw [Array.getElem?_eq_none h'] at h; simp at h

theorem InB.below {w w' : World} {p : Option Addr} {l : List UInt8} (h : InB w p l) (hb : Below w.heap.size w w') : InB w' p l := fun hl => by
  obtain ⟨b, o, hp, hlt, hc⟩ := h hl
  exact ⟨b, o, hp, Nat.lt_of_lt_of_le hlt hb.size, fun i hi => by rw [hb.cell (p := ⟨b, o + i, none⟩) hlt]; exact hc i hi⟩

theorem InB.nil (w : World) (p : Option Addr) : InB w p [] := fun h => absurd h (Nat.lt_irrefl 0)

/-- a cell that lay reads as it did -/
theorem _root_.Go.RowKit.Below.keep {B : Nat} {w w' : World} (h : Below B w w') {b o : Nat} {v : Value} (hb : b < B) (hc : w.cell? ⟨b, o, none⟩ = some v) : w'.cell? ⟨b, o, none⟩ = some v := by
  rw [h.cell (p := ⟨b, o, none⟩) hb]; exact hc

end Go.Proofs.Tre
