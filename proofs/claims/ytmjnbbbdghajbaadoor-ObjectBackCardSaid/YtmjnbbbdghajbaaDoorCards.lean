/-
  DERIVED. GIVEN WITH THE SEED: THE CARDS: each row of YtmjnbbbdghajbaaDoorRows.lean that lists a variable, with what it lists TIED to the program's text (the seventh form; the later family's looks); each row that meets fmt, with fmt's text TOLD by the authors' own Lean function (tested against real Go, not proved from fmt's source: count such statements apart). THE CARD IS WHAT COUNTS. Prove the row's statement (the work); the ties are given (YtmjnbbbdghajbaaDoorTie.lean); close each card by the builder's one call (the guide's Derived/Test/ToyasCard.lean, 'card_holds'). Laid BY PROGRAM, IN A SANDBOX (cutbox-door.mjs). By AI agents, Wed Nov 11 2026. No macro, syntax, notation, axiom, sorry.
-/
import Derived.Test.YtmjnbbbdghajbaaDoorRows
import GoSem.ClaimSeven
namespace Go.Proofs.YtmjnbbbdghajbaaDoor
namespace Rows

/-- THE TIED CARD OF 'trestlelaw09.CommitParents'. -/
def commitParentsCard : Claim7 := { stood := { row := commitParentsRow, standIns := [], harness := (true, "66c61b578746abec0c7962266cd06a574e0be2882cc0c2e7f212e1b8c118d7fa"), looks := true }, kinds := [], alts := [], laidByText := true, laidKinds := [.data, .data, .data, .data, .pinned], laidTests := true, laidLooks := .later }
def CommitParentsCardSaid : Prop := Claim7.holds Tryd.pinned (.plain (OpenSpec.ofChange commitParentsSpec)) commitParentsCard

/-- THE TIED CARD OF 'trestlelaw07.ObjectPrints'. -/
def objectPrintsCard : Claim7 := { stood := { row := objectPrintsRow, standIns := [], harness := (true, "66c61b578746abec0c7962266cd06a574e0be2882cc0c2e7f212e1b8c118d7fa"), looks := true }, kinds := [], alts := [], laidByText := true, laidKinds := [.data, .data, .data], laidTests := true, laidLooks := .later }
def ObjectPrintsCardSaid : Prop := Claim7.holds Tryd.pinned (.plain (OpenSpec.ofChange objectPrintsSpec)) objectPrintsCard

/-- THE TIED CARD OF 'trestlelaw07.ObjectBack'. -/
def objectBackCard : Claim7 := { stood := { row := objectBackRow, standIns := [], harness := (true, "66c61b578746abec0c7962266cd06a574e0be2882cc0c2e7f212e1b8c118d7fa"), looks := true }, kinds := [], alts := [], laidByText := true, laidKinds := [.data, .data, .data], laidTests := true, laidLooks := .later }
def ObjectBackCardSaid : Prop := Claim7.holds Tryd.pinned (.plain (OpenSpec.ofChange objectBackSpec)) objectBackCard

/-- THE TIED CARD OF 'trestlelaw16.ManifestPrints'. -/
def manifestPrintsCard : Claim7 := { stood := { row := manifestPrintsRow, standIns := [], harness := (true, "66c61b578746abec0c7962266cd06a574e0be2882cc0c2e7f212e1b8c118d7fa"), looks := true }, kinds := [], alts := [], laidByText := true, laidKinds := [.data, .data, .data, .pinned, .pinned], laidTests := true, laidLooks := .later }
def ManifestPrintsCardSaid : Prop := Claim7.holds Tryd.pinned (.plain (OpenSpec.ofChange manifestPrintsSpec)) manifestPrintsCard

/-- THE TIED CARD OF 'trestlelaw16.ManifestBack'. -/
def manifestBackCard : Claim7 := { stood := { row := manifestBackRow, standIns := [], harness := (true, "66c61b578746abec0c7962266cd06a574e0be2882cc0c2e7f212e1b8c118d7fa"), looks := true }, kinds := [], alts := [], laidByText := true, laidKinds := [.data, .data, .data, .pinned, .pinned], laidTests := true, laidLooks := .later }
def ManifestBackCardSaid : Prop := Claim7.holds Tryd.pinned (.plain (OpenSpec.ofChange manifestBackSpec)) manifestBackCard

/-- THE TIED CARD OF 'trestlelaw16.ManifestLines'. -/
def manifestLinesCard : Claim7 := { stood := { row := manifestLinesRow, standIns := [], harness := (true, "66c61b578746abec0c7962266cd06a574e0be2882cc0c2e7f212e1b8c118d7fa"), looks := true }, kinds := [], alts := [], laidByText := true, laidKinds := [.data, .data, .data, .pinned, .pinned], laidTests := true, laidLooks := .later }
def ManifestLinesCardSaid : Prop := Claim7.holds Tryd.pinned (.plain (OpenSpec.ofChange manifestLinesSpec)) manifestLinesCard

/-- THE TIED CARD OF 'trestlelaw21.MetaPacks'. -/
def metaPacksCard : Claim7 := { stood := { row := metaPacksRow, standIns := [], harness := (true, "66c61b578746abec0c7962266cd06a574e0be2882cc0c2e7f212e1b8c118d7fa"), looks := true }, kinds := [], alts := [], laidByText := true, laidKinds := [.data, .data, .data, .pinned, .pinned], laidTests := true, laidLooks := .later }
def MetaPacksCardSaid : Prop := Claim7.holds Tryd.pinned (.plain (OpenSpec.ofChange metaPacksSpec)) metaPacksCard

/-- THE TIED CARD OF 'trestlelaw21.MetaBack'. -/
def metaBackCard : Claim7 := { stood := { row := metaBackRow, standIns := [], harness := (true, "66c61b578746abec0c7962266cd06a574e0be2882cc0c2e7f212e1b8c118d7fa"), looks := true }, kinds := [], alts := [], laidByText := true, laidKinds := [.data, .data, .data, .pinned, .pinned], laidTests := true, laidLooks := .later }
def MetaBackCardSaid : Prop := Claim7.holds Tryd.pinned (.plain (OpenSpec.ofChange metaBackSpec)) metaBackCard

/-- THE TIED CARD OF 'trestlelaw21.MetaEdges'. -/
def metaEdgesCard : Claim7 := { stood := { row := metaEdgesRow, standIns := [], harness := (true, "66c61b578746abec0c7962266cd06a574e0be2882cc0c2e7f212e1b8c118d7fa"), looks := true }, kinds := [], alts := [], laidByText := true, laidKinds := [.data, .data, .data, .pinned, .pinned], laidTests := true, laidLooks := .later }
def MetaEdgesCardSaid : Prop := Claim7.holds Tryd.pinned (.plain (OpenSpec.ofChange metaEdgesSpec)) metaEdgesCard

/-- THE SECOND FORM's CARD OF 'trestlelaw09.CommitParents'. -/
def commitParentsUptoCard : Claim7 := { stood := { row := commitParentsUptoRow, standIns := [], harness := (true, "66c61b578746abec0c7962266cd06a574e0be2882cc0c2e7f212e1b8c118d7fa"), looks := true }, kinds := [], alts := [], laidByText := true, laidKinds := [.data, .data, .data, .data, .pinned], laidTests := true, laidLooks := .later }
def CommitParentsUptoCardSaid : Prop := Claim7.holds Tryd.pinned (.plain (OpenSpec.upto commitParentsSpec)) commitParentsUptoCard

/-- THE SECOND FORM's CARD OF 'trestlelaw07.ObjectPrints'. -/
def objectPrintsUptoCard : Claim7 := { stood := { row := objectPrintsUptoRow, standIns := [], harness := (true, "66c61b578746abec0c7962266cd06a574e0be2882cc0c2e7f212e1b8c118d7fa"), looks := true }, kinds := [], alts := [], laidByText := true, laidKinds := [.data, .data, .data], laidTests := true, laidLooks := .later }
def ObjectPrintsUptoCardSaid : Prop := Claim7.holds Tryd.pinned (.plain (OpenSpec.upto objectPrintsSpec)) objectPrintsUptoCard

/-- THE SECOND FORM's CARD OF 'trestlelaw07.ObjectBack'. -/
def objectBackUptoCard : Claim7 := { stood := { row := objectBackUptoRow, standIns := [], harness := (true, "66c61b578746abec0c7962266cd06a574e0be2882cc0c2e7f212e1b8c118d7fa"), looks := true }, kinds := [], alts := [], laidByText := true, laidKinds := [.data, .data, .data], laidTests := true, laidLooks := .later }
def ObjectBackUptoCardSaid : Prop := Claim7.holds Tryd.pinned (.plain (OpenSpec.upto objectBackSpec)) objectBackUptoCard

/-- THE SECOND FORM's CARD OF 'trestlelaw16.ManifestPrints'. -/
def manifestPrintsUptoCard : Claim7 := { stood := { row := manifestPrintsUptoRow, standIns := [], harness := (true, "66c61b578746abec0c7962266cd06a574e0be2882cc0c2e7f212e1b8c118d7fa"), looks := true }, kinds := [], alts := [], laidByText := true, laidKinds := [.data, .data, .data, .pinned, .pinned], laidTests := true, laidLooks := .later }
def ManifestPrintsUptoCardSaid : Prop := Claim7.holds Tryd.pinned (.plain (OpenSpec.upto manifestPrintsSpec)) manifestPrintsUptoCard

/-- THE SECOND FORM's CARD OF 'trestlelaw16.ManifestBack'. -/
def manifestBackUptoCard : Claim7 := { stood := { row := manifestBackUptoRow, standIns := [], harness := (true, "66c61b578746abec0c7962266cd06a574e0be2882cc0c2e7f212e1b8c118d7fa"), looks := true }, kinds := [], alts := [], laidByText := true, laidKinds := [.data, .data, .data, .pinned, .pinned], laidTests := true, laidLooks := .later }
def ManifestBackUptoCardSaid : Prop := Claim7.holds Tryd.pinned (.plain (OpenSpec.upto manifestBackSpec)) manifestBackUptoCard

/-- THE SECOND FORM's CARD OF 'trestlelaw16.ManifestLines'. -/
def manifestLinesUptoCard : Claim7 := { stood := { row := manifestLinesUptoRow, standIns := [], harness := (true, "66c61b578746abec0c7962266cd06a574e0be2882cc0c2e7f212e1b8c118d7fa"), looks := true }, kinds := [], alts := [], laidByText := true, laidKinds := [.data, .data, .data, .pinned, .pinned], laidTests := true, laidLooks := .later }
def ManifestLinesUptoCardSaid : Prop := Claim7.holds Tryd.pinned (.plain (OpenSpec.upto manifestLinesSpec)) manifestLinesUptoCard

/-- THE SECOND FORM's CARD OF 'trestlelaw21.MetaPacks'. -/
def metaPacksUptoCard : Claim7 := { stood := { row := metaPacksUptoRow, standIns := [], harness := (true, "66c61b578746abec0c7962266cd06a574e0be2882cc0c2e7f212e1b8c118d7fa"), looks := true }, kinds := [], alts := [], laidByText := true, laidKinds := [.data, .data, .data, .pinned, .pinned], laidTests := true, laidLooks := .later }
def MetaPacksUptoCardSaid : Prop := Claim7.holds Tryd.pinned (.plain (OpenSpec.upto metaPacksSpec)) metaPacksUptoCard

/-- THE SECOND FORM's CARD OF 'trestlelaw21.MetaBack'. -/
def metaBackUptoCard : Claim7 := { stood := { row := metaBackUptoRow, standIns := [], harness := (true, "66c61b578746abec0c7962266cd06a574e0be2882cc0c2e7f212e1b8c118d7fa"), looks := true }, kinds := [], alts := [], laidByText := true, laidKinds := [.data, .data, .data, .pinned, .pinned], laidTests := true, laidLooks := .later }
def MetaBackUptoCardSaid : Prop := Claim7.holds Tryd.pinned (.plain (OpenSpec.upto metaBackSpec)) metaBackUptoCard

/-- THE SECOND FORM's CARD OF 'trestlelaw21.MetaEdges'. -/
def metaEdgesUptoCard : Claim7 := { stood := { row := metaEdgesUptoRow, standIns := [], harness := (true, "66c61b578746abec0c7962266cd06a574e0be2882cc0c2e7f212e1b8c118d7fa"), looks := true }, kinds := [], alts := [], laidByText := true, laidKinds := [.data, .data, .data, .pinned, .pinned], laidTests := true, laidLooks := .later }
def MetaEdgesUptoCardSaid : Prop := Claim7.holds Tryd.pinned (.plain (OpenSpec.upto metaEdgesSpec)) metaEdgesUptoCard
end Rows
end Go.Proofs.YtmjnbbbdghajbaaDoor
