/- A region that draws: reads and quiet calls in whatever order, then one last operation for which all others are done. -/
import Derived.BigQuiet
namespace Go.Proofs.Tre
open Go

section
variable {P : Program} {md : Region.Mode} {C : World → Prop} {ops ops' : Array Oper} {n : Nat} {last last' : Oper} {Q : Exit → Act → World → Prop} {L : Act → Prop}

theorem wanted_none {o : Oper} (h : o.guard = none) (y : Nat → Option Bool) : Region.wanted o y = true := by simp [Region.wanted, h]

theorem ready_last (hsz : ops.size = n + 1) (hback : ∀ (i : Nat) (o : Oper), ops[i]? = some o → ∀ e ∈ o.after, Region.binds md e = true → e.on < i)
    {listed : Array Bool} (hl : listed.size = n + 1) (hn : listed.getD n true = false) : Region.ready md ops listed ≠ [] := by
  intro h0
  have key : ∀ i, i ≤ n → listed.getD i true = true := by
    intro i
    induction i using Nat.strongRecOn with
    | ind i ih =>
      intro hi
      by_cases hu : listed.getD i true = true
      · exact hu
      · exfalso
        have hlt : i < ops.size := by omega
        have hm : i ∈ Region.ready md ops listed := by
          refine mem_ready.2 ⟨by simpa using hu, ops[i], by simp [hlt], fun e he hb => ?_⟩
          have h1 := hback i ops[i] (by simp [hlt]) e he hb
          have h2 := ih e.on h1 (by omega)
          have h3 : e.on < listed.size := by omega
          simp [Array.getD, h3] at h2 ⊢
          exact h2
        rw [h0] at hm
        cases hm
  rw [key n (Nat.le_refl _)] at hn
  cases hn

theorem wpAny_of_quiet_last (hsz : ops.size = n + 1) (hsz' : ops'.size = n + 1) (hop : ops[n]? = some last) (hop' : ops'[n]? = some last') (heq : ∀ i, i < n → ops'[i]? = ops[i]?)
    (haf : last'.after = last.after) (hdst : last'.dst = none) (hg' : last'.guard = none) (hall : ∀ i, i < n → ∃ e ∈ last.after, Region.binds md e = true ∧ e.on = i)
    (hback : ∀ (i : Nat) (o : Oper), ops[i]? = some o → ∀ e ∈ o.after, Region.binds md e = true → e.on < i) (hg : ∀ (i : Nat) (o : Oper), ops[i]? = some o → o.guard = none)
    (hL : ∀ a w, C w → L a → last.wp P a w (fun a' w' => Q .normal a' w') Q ∨ (last.asks P a w ∧ LetsOut Q)) :
    ∀ (fuel : Nat) (listed : Array Bool) (a : Act) (w : World), listed.size = n + 1 → listed.getD n true = false → C w → wpAnyQ P md ops' C L fuel listed a → wpAny P md ops Q fuel listed a w := by
  have hback' : ∀ (i : Nat) (o : Oper), ops'[i]? = some o → ∀ e ∈ o.after, Region.binds md e = true → e.on < i := fun i o ho e he hb => by
    by_cases hi : i < n
    · rw [heq i hi] at ho; exact hback i o ho e he hb
    · have : i = n := by
        have := (Array.getElem?_eq_some_iff.1 ho).1
        omega
      subst this
      rw [hop'] at ho
      cases ho
      rw [haf] at he
      exact hback _ last hop e he hb
  intro fuel
  induction fuel with
  | zero =>
    intro listed a w hl hn hC h
    exact absurd h.1 (ready_last hsz' hback' hl hn)
  | succ fuel ih =>
    intro listed a w hl hn hC h
    refine ⟨fun h0 => absurd h0 (ready_last hsz hback hl hn), fun i hi => ?_⟩
    obtain ⟨hun, o, ho, hdone⟩ := mem_ready.1 hi
    by_cases hin : i < n
    · have hq := h.2 i (mem_ready.2 ⟨hun, o, by rw [heq i hin]; exact ho, hdone⟩)
      unfold qOp at hq
      rw [heq i hin, ho] at hq
      simp only [wanted_none (hg i o ho), if_true] at hq
      unfold wpOp
      rw [ho]
      simp only [wanted_none (hg i o ho), if_true]
      refine .inl (Oper.wp_of_quiet hC (fun a' w' hC' hK => ?_) hq)
      refine ih _ a' w' (by simpa using hl) ?_ hC' hK
      have hne : i ≠ n := by omega
      simp only [Array.getD] at hn ⊢
      simp [hl, hne] at hn ⊢
      exact hn
    · have hi' : i = n := by
        have := (Array.getElem?_eq_some_iff.1 ho).1
        omega
      subst hi'
      rw [hop] at ho
      cases ho
      have hlist : ∀ j, j ≤ i → (listed.setIfInBounds i true).getD j true = true := fun j hj => by
        by_cases hji : j = i
        · subst hji
          simp [Array.getD, hl]
        · obtain ⟨e, he, hb, hon⟩ := hall j (by omega)
          have := hdone e he hb
          rw [hon] at this
          have hjl : j < listed.size := by omega
          have hne : i ≠ j := fun e => hji e.symm
          simp [Array.getD, hjl, hne] at this ⊢
          exact this
      have hr0 : ∀ X : Array Oper, X.size = i + 1 → Region.ready md X (listed.setIfInBounds i true) = [] := fun X hX => by
        rw [List.eq_nil_iff_forall_not_mem]
        intro j hj
        obtain ⟨hju, o, hjo, _⟩ := mem_ready.1 hj
        have hlt := (Array.getElem?_eq_some_iff.1 hjo).1
        rw [hlist j (by omega)] at hju
        cases hju
      have hq := h.2 i (mem_ready.2 ⟨hun, last', hop', by rw [haf]; exact hdone⟩)
      unfold qOp at hq
      rw [hop'] at hq
      simp only [wanted_none hg', if_true] at hq
      obtain ⟨v, _, hK⟩ := hq
      have hLa : L a := by
        rw [hdst] at hK
        cases fuel with
        | zero => exact hK.2
        | succ f => exact hK.1 (hr0 _ hsz')
      unfold wpOp
      rw [hop]
      simp only [wanted_none (hg i last hop), if_true]
      refine (hL a w hC hLa).imp (fun hw => Oper.wp_mono (fun a' w' hq' => ?_) hw) id
      cases fuel with
      | zero => exact ⟨hr0 _ hsz, hq'⟩
      | succ f => exact ⟨fun _ => hq', fun j hj => by rw [hr0 _ hsz] at hj; cases hj⟩
end

/-- nothing, in the place of the last operation -/
def idle (o : Oper) : Oper := { o with dst := none, op := .move (.const undef), guard := none }

/-- the last one waits for all others; each waits for earlier ones alone; none is guarded -/
def tailOk (l : List Oper) (o : Oper) : Bool :=
  (l ++ [o]).all (fun o => o.guard.isNone) && ((List.range l.length).all fun i => o.after.any fun e => Region.binds .any e && e.on == i) &&
    ((List.range (l.length + 1)).all fun i => match (l ++ [o])[i]? with | some o => o.after.all fun e => !Region.binds .any e || decide (e.on < i) | none => true)

theorem wp_region_quiet_tail {P : Program} {id : Nat} {Q : Exit → Act → World → Prop} {a : Act} {w : World} (l : List Oper) (last : Oper) (ops : Array Oper) (hops : ops = (l ++ [last]).toArray) (hm : P.follows .mixedOrders = true)
    (hB : Region.lexB .any (l ++ [idle last]).toArray = true) (hT : tailOk l last = true)
    (h : wpQuiet P (l ++ [idle last]).toArray (fun w' => ∃ n, w' = w.drewN n) (fun a' => ∀ w', (∃ n, w' = w.drewN n) → wpList P ops Q [last] a' w') (l ++ [idle last]) a) : (Code.region id ops true).wp P Q a w := by
  simp only [Region.lexB, Bool.and_eq_true] at hB
  simp only [tailOk, Bool.and_eq_true, List.all_eq_true, List.mem_range, Array.any_eq_true'] at hT
  obtain ⟨⟨hg, hall⟩, hback⟩ := hT
  have h1 := wpAnyQ_lex (C := fun w' => ∃ n, w' = w.drewN n) (md := .any) hB.1 (l ++ [idle last]) 0 (Array.replicate (l ++ [idle last]).toArray.size false) a (by simp) (by simpa using hB.2) h
  have hsz : ops.size = l.length + 1 := by rw [hops]; simp
  have hgn : ∀ (i : Nat) (o : Oper), ops[i]? = some o → o.guard = none := fun i o ho => by
    rw [hops] at ho
    have hm : o ∈ l ++ [last] := by
      have := Array.mem_of_getElem? ho
      simpa using this
    simpa using hg o hm
  refine wp_region_any hm ?_
  have hop : ops[l.length]? = some last := by rw [hops]; simp
  have := wpAny_of_quiet_last (P := P) (md := .any) (C := fun w' => ∃ n, w' = w.drewN n) (ops := ops) (ops' := (l ++ [idle last]).toArray) (n := l.length) (last := last) (last' := idle last) (Q := Q)
    (L := fun a' => ∀ w', (∃ n, w' = w.drewN n) → wpList P ops Q [last] a' w')
    hsz (by simp) hop (by simp) (fun i hi => by
      rw [hops]; simp [List.getElem?_append_left hi]) rfl rfl rfl (fun i hi => by
      obtain ⟨e, he, hb⟩ := hall i hi
      exact ⟨e, he, by simpa using hb⟩)
    (fun i o ho e he hb => by
      have hi : i < l.length + 1 := by
        have := (Array.getElem?_eq_some_iff.1 ho).1
        omega
      have hbk := hback i hi
      rw [hops] at ho
      have ho' : (l ++ [last])[i]? = some o := by simpa using ho
      rw [ho'] at hbk
      have := Array.all_eq_true_iff_forall_mem.1 hbk e he
      rw [hb] at this
      simpa using this) hgn
    (fun a' w' hC hL => by
      have := hL w' hC
      unfold wpList at this
      rw [if_pos (wanted_none (hgn _ _ hop) _)] at this
      exact this)
    (l ++ [idle last]).length (Array.replicate (l ++ [idle last]).length false) a { w with drawn := w.drawn + 1 } (by simp) (by simp) ⟨1, rfl⟩ (by simpa using h1)
  rw [hsz]
  simpa using this

/-- .. the operations written out, n of them ahead of the last -/
theorem wp_region_quiet_store {P : Program} {id : Nat} {Q : Exit → Act → World → Prop} {a : Act} {w : World} {L : List Oper} (n : Nat) {last : Oper} (hlast : L.drop n = [last]) (hm : P.follows .mixedOrders = true)
    (hB : Region.lexB .any (L.take n ++ [idle last]).toArray = true) (hT : tailOk (L.take n) last = true)
    (h : wpQuiet P (L.take n ++ [idle last]).toArray (fun w' => ∃ n, w' = w.drewN n) (fun a' => ∀ w', (∃ n, w' = w.drewN n) → wpList P L.toArray Q [last] a' w') (L.take n ++ [idle last]) a) : (Code.region id L.toArray true).wp P Q a w := by
  refine wp_region_quiet_tail (L.take n) last L.toArray ?_ hm hB hT h
  rw [← hlast, List.take_append_drop]
end Go.Proofs.Tre
