/- SHA-1: the sum, in plain words. -/
import Derived.Test.YtmjnbbbdghajbaaDoorShaC
namespace Go.Proofs.Tre
open Go Go.RowKit Go.Proofs

/-- how many zeros -/
def zc (n : Nat) : Nat := (119 - n % 64) % 64
/-- a byte of a number -/
def bigB (v : Int) (e : Nat) : UInt8 := UInt8.ofNat (v / 2 ^ e % 256).toNat
theorem bigB_val (v : Int) (e : Nat) : ((bigB v e).toNat : Int) = v / 2 ^ e % 256 := by
  unfold bigB
  rw [UInt8.toNat_ofNat']
  omega
/-- the bytes of a length -/
def lenB (n k : Nat) : List UInt8 := (List.range k).map fun i => bigB ((8 * n : Nat) : Int) (56 - 8 * i)
theorem lenB_succ (n k : Nat) : lenB n (k + 1) = lenB n k ++ [bigB ((8 * n : Nat) : Int) (56 - 8 * k)] := by simp [lenB, List.range_succ]
theorem lenB_length (n k : Nat) : (lenB n k).length = k := by simp [lenB]
def padZ (l : List UInt8) (z : Nat) : List UInt8 := l ++ 128 :: List.replicate z 0
theorem padZ_length (l : List UInt8) (z : Nat) : (padZ l z).length = l.length + 1 + z := by simp [padZ]; omega
theorem padZ_succ (l : List UInt8) (z : Nat) : padZ l z ++ [0] = padZ l (z + 1) := by
  unfold padZ
  rw [List.append_assoc, List.cons_append, ← List.replicate_succ']
def padT (l : List UInt8) (k : Nat) : List UInt8 := padZ l (zc l.length) ++ lenB l.length k
theorem padT_length (l : List UInt8) (k : Nat) : (padT l k).length = l.length + 1 + zc l.length + k := by simp [padT, padZ_length, lenB_length]
def padL (l : List UInt8) : List UInt8 := padT l 8
/-- how many blocks -/
def blocks (l : List UInt8) : Nat := (l.length + 9 + zc l.length) / 64
theorem padL_length (l : List UInt8) : (padL l).length = 64 * blocks l := by
  unfold padL
  rw [padT_length]
  unfold blocks zc
  omega
theorem zc_stop (n z : Nat) (h : z ≤ zc n) : ((n + 1 + z) % 64 = 56 ↔ z = zc n) := by
  unfold zc at *
  omega
theorem zc_lt (n : Nat) : zc n < 64 := by unfold zc; omega
def blk (m : List UInt8) (j : Nat) : List UInt8 := (m.drop (64 * j)).take 64
theorem blk_length (l : List UInt8) (j : Nat) (h : j < blocks l) : (blk (padL l) j).length = 64 := by
  have := padL_length l
  simp [blk]
  omega
def hInit : H5 := ⟨1732584193, 4023233417, 2562383102, 271733878, 3285377520⟩
/-- the state behind so many blocks -/
def hs (m : List UInt8) : Nat → H5
  | 0 => hInit
  | j + 1 => mixB (blk m j) (hs m j)
def sumL (h : H5) (n : Nat) : List UInt8 := (List.range n).map fun i => bigB (h.get (i / 4)) (24 - 8 * (i % 4))
theorem sumL_length (h : H5) (n : Nat) : (sumL h n).length = n := by simp [sumL]
theorem sumL_succ (h : H5) (n : Nat) : sumL h (n + 1) = sumL h n ++ [bigB (h.get (n / 4)) (24 - 8 * (n % 4))] := by simp [sumL, List.range_succ]
/-- the sum -/
def sumID (l : List UInt8) : ID := ⟨sumL (hs (padL l) (blocks l)) 20, sumL_length _ _⟩

theorem InB.sub {w : World} {p : Option Addr} {l : List UInt8} (h : InB w p l) {b o : Nat} (hp : p = some ⟨b, o, none⟩) (j n : Nat) (hj : j + n ≤ l.length) (h0 : 0 < n) : InB w (some ⟨b, o + j, none⟩) ((l.drop j).take n) := fun _ => by
  obtain ⟨b', o', e, hlt, hc⟩ := h (by omega)
  rw [hp] at e
  cases e
  refine ⟨b, o + j, rfl, hlt, fun i hi => ?_⟩
  have hi' : i < n := by
    rw [List.length_take] at hi
    omega
  rw [Nat.add_assoc, hc (j + i) (by omega)]
  simp

end Go.Proofs.Tre
