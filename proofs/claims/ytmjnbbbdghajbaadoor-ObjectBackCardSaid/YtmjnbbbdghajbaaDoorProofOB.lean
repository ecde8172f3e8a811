/- trestlelaw07.ObjectBack: for every number and every two slices of bytes it returns true, and both slices read as they did; no condition; the tables of Go's library that it reads are as their initialisers lay them (the card ties them). -/
import Derived.Test.YtmjnbbbdghajbaaDoorRows
import Derived.Test.YtmjnbbbdghajbaaDoorTie
import Derived.Test.YtmjnbbbdghajbaaDoorCards
import Derived.Test.YtmjnbbbdghajbaaDoorLawOB
import Derived.Test.YtmjnbbbdghajbaaDoorOpen
namespace Go.Proofs.YtmjnbbbdghajbaaDoor
namespace OB
open Go Go.Proofs Go.Shelf Go.ChangeShapes Go.WideShapes Go.ChangeAt Go.RowKit Go.Lib

theorem own : ownKnob Tryd.prog.godebug = none := by kernel_rfl

/-- the cells of a datum of numbers -/
def flatV : Nat → DataW Unit → List Value
  | 0, _ => []
  | n + 1, .agg ds => ds.flatMap (flatV n)
  | _ + 1, .lit (.int k v) => [.int k v]
  | _ + 1, _ => []

/-- THE WITNESS: the settled world, the listed variables holding what their initialisers lay. -/
noncomputable def laidWorld (os : Os) : World :=
  let w0 := World.holding Tryd.prog os ⟨#[], #[], []⟩
  let put (h : Array Obj) (g : Nat) (d : DataW Unit) : Array Obj := h.modify g fun
    | .cells _ t frozen => .cells (flatV 5 d).toArray t frozen
    | o => o
  let h3 := put w0.heap 3 Rows.laid_internal_strconv_uint64pow10
  let h4 := put h3 4 Rows.laid_math_bits_deBruijn32tab
  let h5 := put h4 5 Rows.laid_math_bits_deBruijn64tab
  { w0 with heap := h5 }

abbrev args0 : Array Value := #[.int .i64 0, .slice none 0 0, .slice none 0 0]

theorem laid_met (os : Os) (args : Array Value) : laidMet Tryd.prog Rows.objectBackRow.laid ((laidWorld os).forCall (fun _ _ => 0) ⟨#[], args, []⟩).memory :=
  (LaidIn.of_run (l := Rows.objectBackRow.laid) [4, 5, 3] 8 (by kernel_rfl) (by kernel_rfl) (by kernel_rfl) (by kernel_rfl)).met

theorem witness_row (os : Os) {H : Type} (enc : TypeId × Value → H) :
    (OpenSpec.ofChange Rows.objectBackSpec).preRow enc Tryd.prog Tryd.f5 Rows.objectBackRow.domain false Rows.objectBackRow.laid ((laidWorld os).forCall (fun _ _ => 0) ⟨#[], args0, []⟩).memory args0 := by
  have hw : (DataW.whole enc Tryd.prog ((laidWorld os).forCall (fun _ _ => 0) ⟨#[], args0, []⟩).memory Tryd.f5.params.toList (OpenSpec.ofChange Rows.objectBackSpec).vars false args0.toList 8).map (fun x => (x.1, x.2.1)) =
      some ([.lit (.int .i64 0), .nil, .nil], []) := by kernel_rfl
  obtain ⟨⟨x1, x2, x3⟩, hx, hx1⟩ := Option.map_eq_some_iff.1 hw
  simp only [Prod.mk.injEq] at hx1
  obtain ⟨rfl, rfl⟩ := hx1
  exact OpenSpec.preRow_of_cond 8 hx (by kernel_rfl) (fun k hk => by cases hk) (by kernel_rfl) (laid_met os _)

theorem pow_eq : (Rows.laid_internal_strconv_uint64pow10 : DataW Unit) = tabData .u64 pow10Tab := by kernel_rfl
theorem laid_out : laidOutB Tryd.prog = true := by kernel_rfl

set_option maxRecDepth 100000 in
set_option maxHeartbeats 2000000 in
theorem lifted (os : Os) (started : os.Started) (H : Type) (enc : TypeId × Value → H) (F : Stop.Interp) :
    ReturnsInHanded {} Tryd.checked os 5 .any ((OpenSpec.ofChange Rows.objectBackSpec).preRow enc Tryd.prog Tryd.f5 Rows.objectBackRow.domain false Rows.objectBackRow.laid) (((OpenSpec.ofChange Rows.objectBackSpec).at F).post enc Tryd.prog Tryd.f5 false true false false) := by
  refine returnsInHanded_of_row (C := Tryd.checked) (s := OpenSpec.ofChange Rows.objectBackSpec) own started (by kernel_rfl) Tryd.func5
    (witness_row_atRef (enc := enc) (C := Tryd.checked) false (laidWorld os) args0 rfl (by kernel_rfl) (by kernel_rfl) (by kernel_rfl) (witness_row os enc)) ?_
  intro W base args ds gs before hval0 hW _ _ _ hL _ _
  have hval : ∀ (j : Nat) t v, Tryd.f5.params[j]? = some t → args[j]? = some v → Value.okWide Tryd.prog W .any base t v := hval0
  have hW' := hW
  obtain ⟨p, q, hA0, hV0, rfl, _, _⟩ := hW
  have hA : DataW.TrodAll enc Tryd.prog W 0 (fun _ => true) true Tryd.f5.params.toList args.toList ds p := hA0
  have hA2 := hA
  rw [Tryd.params5] at hA hval
  obtain ⟨v0, v1, v2, d0, d1, d2, p0, p1, p2, rfl, rfl, rfl, h0, h1, h2⟩ := trodAll_three hA
  obtain ⟨rfl, rfl⟩ := trodVars_none hV0
  obtain ⟨kd, rfl, rfl, rfl, w0⟩ := open_int Tryd.underlying3 (hval 0 3 v0 rfl rfl) h0
  obtain ⟨q0, c0, l0, rfl, i0, -, -⟩ := Tre.open_Bytes (hval 1 30 v1 rfl rfl) h1
  obtain ⟨q1, c1, l1, rfl, i1, j1, m1⟩ := Tre.open_Bytes (hval 2 30 v2 rfl rfl) h2
  clear hval hval0
  have hT : Tre.Pow W := Tre.pow_of hL (by rw [← pow_eq]; exact .tail _ (.tail _ (.head _)))
  refine (Tre.law_ob W hT kd q0 q1 c0 c1 l0 l1 i0 i1 j1 m1).mono ?_
  rintro e W' ⟨rfl, bel⟩
  have hlt := hW'.lt
  rw [← List.append_nil ([] ++ p1 ++ p2)] at hA2
  have hre := Tre.trodAll_below laid_out bel (Tre.rowed (by kernel_rfl)) hlt hA2
  refine ⟨_, rfl, _, _, _, [], _, [], hW', ?_, hre, ?_, bel.frame _, fun h => by cases h⟩
  · exact trodAll_mk1 (shut_bool Tryd.underlying4 _)
  · rfl

theorem row : Rows.ObjectBackSaid :=
  OpenClaim.holds_of_cond 5 Tryd.f5 rfl rfl rfl rfl rfl rfl rfl ⟨rfl, rfl, rfl, rfl, rfl⟩ rfl rfl rfl rfl rfl (by kernel_rfl) Tryd.func5 (by kernel_rfl)
    (of_decide_eq_true (by kernel_rfl)) (by unfold Func.isWrapper; rw [if_neg (of_decide_eq_false (by kernel_rfl))]; exact ⟨rfl, rfl⟩)
    (fun os started H enc _ F0 => by rw [OpenClaim.pre_eq_preRow]; exact lifted os started H enc F0)
end OB

/-- The tied card. -/
theorem objectBack_card : Rows.ObjectBackCardSaid :=
  Claim7.holds_tied_plain_at .later [] [.data, .data, .data] true (true, "66c61b578746abec0c7962266cd06a574e0be2882cc0c2e7f212e1b8c118d7fa") true
    OB.row (fun _ h => by cases h) (by kernel_rfl) (fun _ h => by cases h) objectBack_row_tie rfl ⟨rfl, rfl⟩ (by kernel_rfl) rfl
    (fun f fn hf hfn => by
      obtain rfl : f = 5 := Option.some.inj ((show Tryd.prog.funcNamed "trestle/trestlelaw07.ObjectBack" = some 5 by kernel_rfl).symm.trans hf) |>.symm
      obtain rfl : fn = Tryd.f5 := (Option.some.inj (Tryd.func5.symm.trans hfn)).symm
      exact ⟨by kernel_rfl, fun j t ht => by
        rw [Tryd.params5] at ht
        match j, ht with
        | 0, ht => obtain rfl := Option.some.inj ht; exact (show Tryd.prog.wantsStandIn 3 = false by kernel_rfl)
        | 1, ht => obtain rfl := Option.some.inj ht; exact (show Tryd.prog.wantsStandIn 30 = false by kernel_rfl)
        | 2, ht => obtain rfl := Option.some.inj ht; exact (show Tryd.prog.wantsStandIn 30 = false by kernel_rfl)⟩)
    (by kernel_rfl)
#print axioms objectBack_card
end Go.Proofs.YtmjnbbbdghajbaaDoor
