/- SHA-1: the parts, one behind the other (one part alone). -/
import Derived.Test.YtmjnbbbdghajbaaDoorShaM
import Derived.Lib.AppendZerosOnto
namespace Go.Proofs.Tre
open Go Go.RowKit Go.Proofs

theorem zero_cells_size (n : Nat) : (Builtin.zeroCells (Value.int IntKind.u8 0).cells n).size = n := by simp [Builtin.zeroCells, Value.cells]

set_option maxHeartbeats 1000000 in
set_option maxRecDepth 100000 in
theorem Grow_nil (w : World) (n : Nat) (h0 : 0 < n) (hn : n ≤ 100000) :
    Calls Tryd.prog 135 #[.slice none 0 0, .int .i64 (n : Int)] w fun e w' => ∃ v, e = .returned v ∧ Own w.heap.size v [] w' ∧ Below w.heap.size w w' := by
  obtain ⟨i5, hi5, hz1, hz2, hz3⟩ := info5
  have hr := fun ty => Lib.run_append_nil_zeros (P := Tryd.prog) w 30 3 ty 5 i5 (.int .u8 0) .i64 .i64 Tryd.underlying30 Tryd.underlying3 hi5 hz3 n h0 (by omega) (by omega) (by rw [hz2]; omega)
  have hge := grownCap_ge w n 0 5
  have hbel : Below w.heap.size w (w.drew.alloc (.cells (Builtin.zeroCells (Value.int .u8 0).cells n ++ Builtin.zeroCells (Value.int .u8 0).cells (grownCap w n 0 5 - n)) 5)) := (Below.refl _ _).drew.alloc (Nat.le_refl _) _
  have hsz : (Builtin.zeroCells (Value.int .u8 0).cells n ++ Builtin.zeroCells (Value.int .u8 0).cells (grownCap w n 0 5 - n)).size = grownCap w n 0 5 := by
    rw [Array.size_append, zero_cells_size, zero_cells_size]; omega
  have hown : Own w.heap.size (.slice (some ⟨w.heap.size, 0, none⟩) 0 (grownCap w n 0 5)) [] (w.drew.alloc (.cells (Builtin.zeroCells (Value.int .u8 0).cells n ++ Builtin.zeroCells (Value.int .u8 0).cells (grownCap w n 0 5 - n)) 5)) :=
    .inr ⟨w.heap.size, _, rfl, Nat.le_refl _, by simp, Nat.zero_le _, fun i hi => by simp at hi, fun j hj => ⟨by
      rw [World.cell?_alloc_at (w := w.drew) _ _ w.heap.size _ rfl, Array.getElem?_eq_getElem (by rw [hsz]; exact hj)]; rfl, World.frozen?_alloc_at _ _ _ _ rfl⟩⟩
  obtain ⟨W, hW⟩ : ∃ W, w.drew.alloc (.cells (Builtin.zeroCells (Value.int .u8 0).cells n ++ Builtin.zeroCells (Value.int .u8 0).cells (grownCap w n 0 5 - n)) 5) = W := ⟨_, rfl⟩
  obtain ⟨c, hc⟩ : ∃ c, grownCap w n 0 5 = c := ⟨_, rfl⟩
  rw [hW, hc] at hown
  rw [hW] at hbel
  rw [hW, hc] at hr
  have h1 : decide ((n : Int) < 0) = false := by simp
  have h2 : decide (0 < (n : Int)) = true := by simp; omega
  have hc0 : 0 < c := by omega
  have hs1 : ∀ W, (Instr.slice 30 (.slice (some ⟨w.heap.size, 0, none⟩) n c) none (some (.int .i64 (0 : Int))) none).run Tryd.prog W = .ok (.slice (some ⟨w.heap.size, 0, none⟩) 0 c) W := fun W => slice_to W w.heap.size n c 0 (Nat.zero_le _) hc0
  clear hW hc hge hsz
  go_enter Tryd.func135, Tryd.ntmps135
  go_wp2_with (at_builtin; refine Lib.wpList_append_run _ rfl _ _ _ _ rfl _ _ rfl rfl _ _ (hr _) ?_)
  go_ret
  exact ⟨_, rfl, hown, hbel⟩

set_option maxHeartbeats 1000000 in
set_option maxRecDepth 100000 in
theorem Concat_one (w : World) (g : Nat) (p : Option Addr) (c : Nat) (l : List UInt8) (hg : w.cell? ⟨g, 0, none⟩ = some (.slice p l.length c)) (hi : InB w p l) (h0 : 0 < l.length) (hl : l.length ≤ 100000) :
    Calls Tryd.prog 104 #[.slice (some ⟨g, 0, none⟩) 1 1] w fun e w' => ∃ v, e = .returned v ∧ Own w.heap.size v l w' ∧ Below w.heap.size w w' := by
  have hgl : g < w.heap.size := cell_lt hg
  go_enter Tryd.func104, Tryd.ntmps104
  go_wp2_with fail
  go_loopw [3, 11] (fun n i wr => w = wr ∧ ((i = .int .i64 0 ∧ n = .int .i64 0) ∨ (i = .int .i64 1 ∧ n = .int .i64 (l.length : Int)))) (fun _ i _ => 1 - (intOf i).toNat)
  case atStart => exact ⟨rfl, .inl ⟨rfl, rfl⟩⟩
  case round =>
    obtain ⟨rfl, ⟨rfl, rfl⟩ | ⟨rfl, rfl⟩⟩ := hrel
    · go_wp2
      exact ⟨⟨trivial, .inr ⟨rfl, rfl⟩⟩, by simp [intOf]⟩
    · have cg := Grow_nil w l.length h0 hl
      go_wp2_with fail
      refine cg.mono ?_
      rintro e w1 ⟨v, rfl, ho1, hb1⟩
      have hg1 := hb1.keep hgl hg
      have hi1 := hi.below hb1
      have hs1 := hb1.size
      go_wp2_with fail
      go_loopw [6, 27] (fun v i wz => (i = .int .i64 0 ∧ Own w.heap.size v [] wz ∧ w1 = wz) ∨ (i = .int .i64 1 ∧ Own w.heap.size v l wz ∧ Below w.heap.size w wz)) (fun _ i _ => 1 - (intOf i).toNat)
      case atStart => exact .inl ⟨rfl, ho1, rfl⟩
      case round =>
        obtain ⟨rfl, ho, rfl⟩ | ⟨rfl, ho, hb⟩ := hrel
        · go_wp2_with (at_builtin; refine wpList_append_B _ rfl (.tmp 31) (.tmp 32) rfl w.heap.size _ [] rfl ho (by omega) p l.length c l rfl rfl hi1 (by simp; omega) ?_; intro v' w3 ho3 hb3)
          exact ⟨.inr ⟨rfl, by simpa using ho3, hb1.trans (hb3.mono (Nat.le_refl _))⟩, by simp [intOf]⟩
        · go_wp2
          go_ret
          exact ⟨_, rfl, ho, hb⟩
end Go.Proofs.Tre
