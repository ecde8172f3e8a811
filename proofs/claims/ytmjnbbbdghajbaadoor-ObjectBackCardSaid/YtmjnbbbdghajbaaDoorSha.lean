/- SHA-1: what both say. -/
import Derived.Test.YtmjnbbbdghajbaaDoorOwn
namespace Go.Proofs.Tre
open Go Go.RowKit Go.Proofs

abbrev wU (x : Int) : Value := .int .u32 x
def rotN (n : Nat) (x : Int) : Int := bits .or .u32 (x * 2 ^ n % 4294967296) (x / 2 ^ (32 - n))
def chI (b c d : Int) : Int := bits .xor .u32 (bits .and .u32 b c) (bits .and .u32 (bits .xor .u32 IntKind.u32.max b) d)
def paI (b c d : Int) : Int := bits .xor .u32 (bits .xor .u32 b c) d
def maI (b c d : Int) : Int := bits .xor .u32 (bits .xor .u32 (bits .and .u32 b c) (bits .and .u32 b d)) (bits .and .u32 c d)
def mixF (t : Nat) (b c d : Int) : Int := if t < 20 then chI b c d else if t < 40 then paI b c d else if t < 60 then maI b c d else paI b c d
def mixK (t : Nat) : Int := if t < 20 then 1518500249 else if t < 40 then 1859775393 else if t < 60 then 2400959708 else 3395469782

theorem ofInt_wrap (z : BitVec 32) : BitVec.ofInt 32 (IntKind.u32.wrap (z.toNat : Int)) = z := by
  have h : IntKind.u32.wrap (z.toNat : Int) = (z.toNat : Int) := by
    rw [IntKind.wrap_u32]
    have := z.isLt
    omega
  rw [h, BitVec.ofInt_natCast, BitVec.ofNat_toNat, BitVec.setWidth_eq]

theorem bits32_and (x y : Int) : bits .and .u32 x y = IntKind.u32.wrap ((BitVec.ofInt 32 x &&& BitVec.ofInt 32 y).toNat : Int) := rfl
theorem bits32_or (x y : Int) : bits .or .u32 x y = IntKind.u32.wrap ((BitVec.ofInt 32 x ||| BitVec.ofInt 32 y).toNat : Int) := rfl
theorem bits32_xor (x y : Int) : bits .xor .u32 x y = IntKind.u32.wrap ((BitVec.ofInt 32 x ^^^ BitVec.ofInt 32 y).toNat : Int) := rfl

theorem ch_bv (x y z : BitVec 32) : (x &&& y ||| (BitVec.allOnes 32 ^^^ x) &&& z) = (x &&& y ^^^ (BitVec.allOnes 32 ^^^ x) &&& z) := by
  apply BitVec.eq_of_getLsbD_eq
  intro i hi
  simp only [BitVec.getLsbD_or, BitVec.getLsbD_and, BitVec.getLsbD_xor, BitVec.getLsbD_allOnes, hi, decide_true]
  cases x.getLsbD i <;> cases y.getLsbD i <;> cases z.getLsbD i <;> rfl
theorem ma_bv (x y z : BitVec 32) : (x &&& y ||| x &&& z ||| y &&& z) = (x &&& y ^^^ x &&& z ^^^ y &&& z) := by
  apply BitVec.eq_of_getLsbD_eq
  intro i hi
  simp only [BitVec.getLsbD_or, BitVec.getLsbD_and, BitVec.getLsbD_xor]
  cases x.getLsbD i <;> cases y.getLsbD i <;> cases z.getLsbD i <;> rfl

theorem ch_or (b c d : Int) : bits .or .u32 (bits .and .u32 b c) (bits .and .u32 (bits .xor .u32 IntKind.u32.max b) d) = chI b c d := by
  have hm : BitVec.ofInt 32 IntKind.u32.max = BitVec.allOnes 32 := by decide
  simp only [chI, bits32_and, bits32_or, bits32_xor, ofInt_wrap, hm, ch_bv]

theorem ma_or (b c d : Int) : bits .or .u32 (bits .or .u32 (bits .and .u32 b c) (bits .and .u32 b d)) (bits .and .u32 c d) = maI b c d := by
  simp only [maI, bits32_and, bits32_or, bits32_xor, ofInt_wrap, ma_bv]

theorem left_1 (x : Int) (w : World) : Calls Tryd.prog 72 #[wU x, .int .i64 1] w fun e w' => e = .returned (wU (rotN 1 x)) ∧ w' = w := by
  go_enter Tryd.func72, Tryd.ntmps72
  go_wp2
  go_ret
  exact ⟨rfl, rfl⟩
theorem left_5 (x : Int) (w : World) : Calls Tryd.prog 72 #[wU x, .int .i64 5] w fun e w' => e = .returned (wU (rotN 5 x)) ∧ w' = w := by
  go_enter Tryd.func72, Tryd.ntmps72
  go_wp2
  go_ret
  exact ⟨rfl, rfl⟩
theorem left_30 (x : Int) (w : World) : Calls Tryd.prog 72 #[wU x, .int .i64 30] w fun e w' => e = .returned (wU (rotN 30 x)) ∧ w' = w := by
  go_enter Tryd.func72, Tryd.ntmps72
  go_wp2
  go_ret
  exact ⟨rfl, rfl⟩
theorem rot_1 (x : Int) (w : World) : Calls Tryd.prog 137 #[wU x, .int .i64 1] w fun e w' => e = .returned (wU (rotN 1 x)) ∧ w' = w := by
  have h : bits .and .u64 1 31 = 1 := by decide
  go_enter Tryd.func137, Tryd.ntmps137
  go_wp2
  go_ret
  exact ⟨rfl, rfl⟩
theorem rot_5 (x : Int) (w : World) : Calls Tryd.prog 137 #[wU x, .int .i64 5] w fun e w' => e = .returned (wU (rotN 5 x)) ∧ w' = w := by
  have h : bits .and .u64 5 31 = 5 := by decide
  go_enter Tryd.func137, Tryd.ntmps137
  go_wp2
  go_ret
  exact ⟨rfl, rfl⟩
theorem rot_30 (x : Int) (w : World) : Calls Tryd.prog 137 #[wU x, .int .i64 30] w fun e w' => e = .returned (wU (rotN 30 x)) ∧ w' = w := by
  have h : bits .and .u64 30 31 = 30 := by decide
  go_enter Tryd.func137, Tryd.ntmps137
  go_wp2
  go_ret
  exact ⟨rfl, rfl⟩

theorem mix_any (t : Nat) (b c d : Int) (w : World) : Calls Tryd.prog 73 #[.int .i64 (t : Int), wU b, wU c, wU d] w fun e w' => e = .returned (.tuple #[wU (mixF t b c d), wU (mixK t)]) ∧ w' = w := by
  unfold mixF mixK
  by_cases h1 : t < 20
  · rw [if_pos h1, if_pos h1]
    have g1 : decide ((t : Int) < 20) = true := by simp; omega
    clear h1
    go_enter Tryd.func73, Tryd.ntmps73
    go_wp2
    go_ret2
    exact ⟨rfl, rfl⟩
  rw [if_neg h1, if_neg h1]
  have g1 : decide ((t : Int) < 20) = false := by simp; omega
  by_cases h2 : t < 40
  · rw [if_pos h2, if_pos h2]
    have g2 : decide ((t : Int) < 40) = true := by simp; omega
    clear h1 h2
    go_enter Tryd.func73, Tryd.ntmps73
    go_wp2
    go_ret2
    exact ⟨rfl, rfl⟩
  rw [if_neg h2, if_neg h2]
  have g2 : decide ((t : Int) < 40) = false := by simp; omega
  by_cases h3 : t < 60
  · rw [if_pos h3, if_pos h3]
    have g3 : decide ((t : Int) < 60) = true := by simp; omega
    clear h1 h2 h3
    go_enter Tryd.func73, Tryd.ntmps73
    go_wp2
    go_ret2
    exact ⟨rfl, rfl⟩
  rw [if_neg h3, if_neg h3]
  have g3 : decide ((t : Int) < 60) = false := by simp; omega
  clear h1 h2 h3
  go_enter Tryd.func73, Tryd.ntmps73
  go_wp2
  go_ret2
  exact ⟨rfl, rfl⟩
end Go.Proofs.Tre
