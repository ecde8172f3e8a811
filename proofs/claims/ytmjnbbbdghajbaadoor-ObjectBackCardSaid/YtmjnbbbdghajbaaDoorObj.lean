/- object.Word, trestleref07.Word: what a kind is called. -/
import Derived.Test.YtmjnbbbdghajbaaDoorIdent
import Derived.Test.YtmjnbbbdghajbaaDoorIds
namespace Go.Proofs.Tre
open Go Go.RowKit Go.Proofs

/-- what a kind is called -/
def wordS (k : Int) : ByteArray := if k = 1 then ⟨#[98, 108, 111, 98]⟩ else if k = 2 then ⟨#[116, 114, 101, 101]⟩ else if k = 3 then ⟨#[99, 111, 109, 109, 105, 116]⟩ else ⟨#[]⟩

theorem ta1 (w : World) : (Instr.typeAssert (.iface 145 (.agg #[])) 20 104 true).run Tryd.prog w = .ok (.tuple #[.iface 145 (.agg #[]), .bool true]) w := by kernel_rfl
theorem ta2 (w : World) : (Instr.typeAssert (.iface 146 (.agg #[])) 20 104 true).run Tryd.prog w = .ok (.tuple #[.iface 146 (.agg #[]), .bool true]) w := by kernel_rfl
theorem ta3 (w : World) : (Instr.typeAssert (.iface 147 (.agg #[])) 20 104 true).run Tryd.prog w = .ok (.tuple #[.iface 147 (.agg #[]), .bool true]) w := by kernel_rfl
theorem ta0 (w : World) : (Instr.typeAssert .nilIface 20 104 true).run Tryd.prog w = .ok (.tuple #[.nilIface, .bool false]) w := by kernel_rfl

theorem mt1 (w : World) : (method 333 145 (.agg #[]) "trestle/object.word").run Tryd.prog w = .ok (208, .agg #[]) w := by kernel_rfl
theorem mt2 (w : World) : (method 333 146 (.agg #[]) "trestle/object.word").run Tryd.prog w = .ok (209, .agg #[]) w := by kernel_rfl
theorem mt3 (w : World) : (method 333 147 (.agg #[]) "trestle/object.word").run Tryd.prog w = .ok (210, .agg #[]) w := by kernel_rfl

set_option maxRecDepth 100000 in
theorem Word_1 (w : World) : Calls Tryd.prog 25 #[.int .i64 1] w fun e w' => e = .returned (.string ⟨#[98, 108, 111, 98]⟩) ∧ Below w.heap.size w w' := by
  have h1 := ta1
  have h2 := mt1
  go_enter Tryd.func25, Tryd.ntmps25
  go_wp2
  go_ret
  exact ⟨rfl, by first | exact Below.refl _ _ | exact (Below.refl _ _).alloc (Nat.le_refl _) _⟩

set_option maxRecDepth 100000 in
theorem Word_2 (w : World) : Calls Tryd.prog 25 #[.int .i64 2] w fun e w' => e = .returned (.string ⟨#[116, 114, 101, 101]⟩) ∧ Below w.heap.size w w' := by
  have h1 := ta2
  have h2 := mt2
  go_enter Tryd.func25, Tryd.ntmps25
  go_wp2
  go_ret
  exact ⟨rfl, by first | exact Below.refl _ _ | exact (Below.refl _ _).alloc (Nat.le_refl _) _⟩

set_option maxRecDepth 100000 in
theorem Word_3 (w : World) : Calls Tryd.prog 25 #[.int .i64 3] w fun e w' => e = .returned (.string ⟨#[99, 111, 109, 109, 105, 116]⟩) ∧ Below w.heap.size w w' := by
  have h1 := ta3
  have h2 := mt3
  go_enter Tryd.func25, Tryd.ntmps25
  go_wp2
  go_ret
  exact ⟨rfl, by first | exact Below.refl _ _ | exact (Below.refl _ _).alloc (Nat.le_refl _) _⟩

set_option maxRecDepth 100000 in
theorem Word_0 (k : Int) (w : World) (h1 : k ≠ 1) (h2 : k ≠ 2) (h3 : k ≠ 3) : Calls Tryd.prog 25 #[.int .i64 k] w fun e w' => e = .returned (.string ⟨#[]⟩) ∧ Below w.heap.size w w' := by
  have e1 : (k == 1) = false := by simpa using h1
  have e2 : (k == 2) = false := by simpa using h2
  have e3 : (k == 3) = false := by simpa using h3
  clear h1 h2 h3
  have h1 := ta0
  go_enter Tryd.func25, Tryd.ntmps25
  go_wp2
  go_ret
  exact ⟨rfl, Below.refl _ _⟩

theorem Word_any (k : Int) (w : World) : Calls Tryd.prog 25 #[.int .i64 k] w fun e w' => e = .returned (.string (wordS k)) ∧ Below w.heap.size w w' := by
  unfold wordS
  by_cases h1 : k = 1
  · rw [if_pos h1]; subst h1; exact Word_1 w
  · rw [if_neg h1]
    by_cases h2 : k = 2
    · rw [if_pos h2]; subst h2; exact Word_2 w
    · rw [if_neg h2]
      by_cases h3 : k = 3
      · rw [if_pos h3]; subst h3; exact Word_3 w
      · rw [if_neg h3]; exact Word_0 k w h1 h2 h3

theorem WordR_any (k : Int) (w : World) : Calls Tryd.prog 26 #[.int .i64 k] w fun e w' => e = .returned (.string (wordS k)) ∧ w' = w := by
  unfold wordS
  by_cases h1 : k = 1
  · rw [if_pos h1]; subst h1
    go_enter Tryd.func26, Tryd.ntmps26
    go_wp2
    go_ret
    exact ⟨rfl, rfl⟩
  rw [if_neg h1]
  have e1 : (k == 1) = false := by simpa using h1
  by_cases h2 : k = 2
  · rw [if_pos h2]; subst h2
    go_enter Tryd.func26, Tryd.ntmps26
    go_wp2
    go_ret
    exact ⟨rfl, rfl⟩
  rw [if_neg h2]
  have e2 : (k == 2) = false := by simpa using h2
  by_cases h3 : k = 3
  · rw [if_pos h3]; subst h3
    go_enter Tryd.func26, Tryd.ntmps26
    go_wp2
    go_ret
    exact ⟨rfl, rfl⟩
  rw [if_neg h3]
  have e3 : (k == 3) = false := by simpa using h3
  clear h1 h2 h3
  go_enter Tryd.func26, Tryd.ntmps26
  go_wp2
  go_ret
  exact ⟨rfl, rfl⟩
end Go.Proofs.Tre
