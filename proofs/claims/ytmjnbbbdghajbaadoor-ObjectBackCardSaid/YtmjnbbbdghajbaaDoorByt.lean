/- bytes.Cut at a zero, bytes.Equal, bytes.Clone, CopyBytes, over bytes in memory. -/
import Derived.Test.YtmjnbbbdghajbaaDoorApp
import Derived.Lib.IndexBytes
import Derived.Lib.IndexMore
import Derived.Lib.BufferMore
namespace Go.Proofs.Tre
open Go Go.RowKit Go.Proofs

theorem ib_ge (l : List UInt8) (c : UInt8) : -1 ≤ Lib.indexByte l c := Lib.indexByte_ge l c

theorem ib_hit : ∀ (h t : List UInt8) (c : UInt8), c ∉ h → Lib.indexByte (h ++ c :: t) c = h.length
  | [], t, c, _ => by simp [Lib.indexByte]
  | b :: h, t, c, hn => by
    have hb : (b == c) = false := by simpa using fun e => hn (by simp [e])
    have ih := ib_hit h t c (fun e => hn (List.mem_cons_of_mem _ e))
    have h1 : ((h.length : Int) == -1) = false := by simp
    simp only [List.cons_append, Lib.indexByte, hb, ih, h1]
    simp

theorem ib_spec : ∀ (l : List UInt8) (c : UInt8), (Lib.indexByte l c = -1 ∧ c ∉ l) ∨ ∃ h t, l = h ++ c :: t ∧ c ∉ h
  | [], c => .inl ⟨rfl, by simp⟩
  | b :: l, c => by
    by_cases hb : b = c
    · exact .inr ⟨[], l, by simp [hb], by simp⟩
    · have hb' : (b == c) = false := by simpa using hb
      rcases ib_spec l c with ⟨h1, h2⟩ | ⟨h, t, rfl, hn⟩
      · left
        constructor
        · simp [Lib.indexByte, hb', h1]
        · simp only [List.mem_cons, not_or]
          exact ⟨fun e => hb e.symm, h2⟩
      · right
        refine ⟨b :: h, t, rfl, ?_⟩
        simp only [List.mem_cons, not_or]
        exact ⟨fun e => hb e.symm, hn⟩

theorem Equal_any (w : World) (p q : Option Addr) (n m c d : Nat) (a b : List UInt8) (hn : n = a.length) (hm : m = b.length) (ha : InB w p a) (hb : InB w q b) :
    Calls Tryd.prog 64 #[.slice p n c, .slice q m d] w fun e w' => e = .returned (.bool (a == b)) ∧ w' = w := by
  subst hn hm
  have := Tryd.bytes_Equal_all p q a.length c b.length d (a.map fun b => (b.toNat : Int)) (b.map fun b => (b.toNat : Int)) w (by simp) (by simp) ha.old hb.old
  rw [bytesOf_nat, bytesOf_nat] at this
  exact this

theorem Copy_any (w : World) (p : Option Addr) (c : Nat) (l : List UInt8) (hi : InB w p l) (hl : l.length ≤ 100000) :
    Calls Tryd.prog 68 #[.slice p l.length c] w fun e w' => ∃ v, e = .returned v ∧ RetB l w v w' := by
  go_enter Tryd.func68, Tryd.ntmps68
  go_wp2_with (at_builtin; refine wpList_append_B _ rfl (.const (.slice none 0 0)) (.tmp 3) rfl w.heap.size _ [] rfl (Own.nil _ _) (Nat.le_refl _) p l.length c l rfl rfl hi (by simp; omega) ?_; intro v' w3 ho3 hb3)
  go_ret
  exact ⟨_, rfl, (by simpa using ho3.ret hb3)⟩

set_option maxRecDepth 100000 in
theorem Clone_any (w : World) (p : Option Addr) (c : Nat) (l : List UInt8) (hi : InB w p l) (hp : p = none → c = 0) (hl : l.length ≤ 100000) :
    Calls Tryd.prog 65 #[.slice p l.length c] w fun e w' => ∃ v, e = .returned v ∧ RetB l w v w' := by
  cases p with
  | none =>
    obtain rfl := hp rfl
    obtain rfl : l = [] := by
      cases l with
      | nil => rfl
      | cons b l => obtain ⟨_, _, h, _⟩ := hi (by simp); cases h
    exact (Tryd.bytes_Clone_nil 0 0 w).mono fun e w' ⟨h1, h2⟩ => ⟨_, h1, by subst h2; exact (Own.nil _ _).ret (Below.refl _ _)⟩
  | some a =>
    have ho : Own w.heap.size (.slice (some ⟨w.heap.size, 0, none⟩) 0 0) [] (w.alloc (.cells #[] 5)) := .inr ⟨w.heap.size, 0, rfl, Nat.le_refl _, by simp, Nat.le_refl _, fun i hi => by simp at hi, fun j hj => by omega⟩
    have hb0 : Below w.heap.size w (w.alloc (.cells #[] 5)) := (Below.refl _ _).alloc (Nat.le_refl _) _
    have hi' := hi.below hb0
    have hnil : ∀ W, (binOp .eql 30 (.slice (some a) l.length c) (.slice none 0 0)).run Tryd.prog W = .ok (.bool false) W := fun W => Lib.run_eql_slice_some_nil W _ _ _ Tryd.underlying30
    go_enter Tryd.func65, Tryd.ntmps65
    go_wp2_with (at_builtin; refine wpList_append_B _ rfl (.tmp 5) (.tmp 6) rfl w.heap.size _ [] rfl ho (by simp) (some a) l.length c l rfl rfl hi' (by simp; omega) ?_; intro v' w3 ho3 hb3)
    go_ret
    exact ⟨_, rfl, (by simpa using ho3.ret (hb0.trans hb3))⟩

/-- where the rest begins -/
theorem InB.from {w : World} {p : Option Addr} {l : List UInt8} (h : InB w p l) (c j : Nat) (hc : l.length ≤ c) : InB w (if c = j then p else p.map (fun x => x.add j)) (l.drop j) := fun hl => by
  have hj : j < l.length := by simp at hl; omega
  obtain ⟨b, o, rfl, hb, hcl⟩ := h (by omega)
  rw [if_neg (by omega)]
  refine ⟨b, o + j, by rw [Option.map_some, Addr.add_lit], hb, fun i hi => ?_⟩
  rw [Nat.add_assoc, hcl (j + i) (by simp at hi; omega)]
  simp

/-- bytes.Cut(b, []byte{0}) -/
theorem Cut_any (w : World) (p : Option Addr) (c : Nat) (l : List UInt8) (g : Nat) (hi : InB w p l) (hc : l.length ≤ c) (hp : p = none → c = 0) (hl : l.length ≤ 100000) (hz : w.cell? ⟨g, 0, none⟩ = some (.int .u8 0)) :
    Calls Tryd.prog 63 #[.slice p l.length c, .slice (some ⟨g, 0, none⟩) 1 1] w fun e w' => e = .returned (Lib.cutV p l.length c 1 (Lib.indexByte l 0)) ∧ ∃ q, w' = w.drewN q := by
  have hroom : 0 ≤ Lib.indexByte l 0 → Lib.indexByte l 0 + (1 : Nat) ≤ l.length := fun h => by
    rcases ib_spec l 0 with ⟨h1, _⟩ | ⟨a, t, rfl, hn⟩
    · omega
    · rw [ib_hit a t 0 hn]; simp; omega
  refine Tryd.bytes_Cut_of p _ l.length c 1 1 (Lib.indexByte l 0) w hc (ib_ge _ _) hroom (by omega) ?_
  cases p with
  | none =>
    obtain rfl := hp rfl
    obtain rfl : l = [] := List.eq_nil_of_length_eq_zero (by omega)
    exact (Tryd.bytes_Index_one_nil g 0 1 0 w hz).mono fun e w' ⟨h1, h2⟩ => ⟨h1, 0, by subst h2; rfl⟩
  | some a =>
    have := Tryd.bytes_Index_one_at a l.length c g 0 1 (l.map fun b => (b.toNat : Int)) 0 w (by simp) (fun i h => ?_) hz
    · rw [bytesOf_nat] at this
      exact this.mono fun e w' ⟨h1, h2⟩ => ⟨h1, 0, by subst h2; rfl⟩
    · obtain ⟨b, o, e, _, hcl⟩ := hi (by omega)
      cases e
      rw [Addr.add_lit, hcl i h]
      simp [List.getD, h]
end Go.Proofs.Tre
