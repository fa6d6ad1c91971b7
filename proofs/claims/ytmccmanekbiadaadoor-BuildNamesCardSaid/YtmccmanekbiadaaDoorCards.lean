/-
  DERIVED. GIVEN WITH THE SEED: THE CARDS: each row of YtmccmanekbiadaaDoorRows.lean that lists a variable, with what it lists TIED to the program's text (the seventh form; the later family's looks); each row that meets fmt, with fmt's text TOLD by the authors' own Lean function (tested against real Go, not proved from fmt's source: count such statements apart). THE CARD IS WHAT COUNTS. Prove the row's statement (the work); the ties are given (YtmccmanekbiadaaDoorTie.lean); close each card by the builder's one call (the guide's Derived/Test/ToyasCard.lean, 'card_holds'). Laid BY PROGRAM, IN A SANDBOX (cutbox-door.mjs). By AI agents, Wed Nov 11 2026. No macro, syntax, notation, axiom, sorry.
-/
import Derived.Test.YtmccmanekbiadaaDoorRows
import GoSem.ClaimSeven
namespace Go.Proofs.YtmccmanekbiadaaDoor
namespace Rows

/-- THE TIED CARD OF 'weighlocklaw17.BuildNames'. -/
def buildNamesCard : Claim7 := { stood := { row := buildNamesRow, standIns := [], harness := (true, "b340e8a419291ec7c70d7f193b5ff037c7fc45640b99aa698f6af02695ea6570"), looks := false }, kinds := [], alts := [], laidByText := true, laidKinds := [.widerDeep], laidTests := true, laidLooks := .later }
def BuildNamesCardSaid : Prop := Claim7.holds Tryd.pinned (.plain (OpenSpec.ofChange buildNamesSpec)) buildNamesCard

/-- THE TIED CARD OF 'weighlocklaw27.BoundRises'. -/
def boundRisesCard : Claim7 := { stood := { row := boundRisesRow, standIns := [], harness := (true, "b340e8a419291ec7c70d7f193b5ff037c7fc45640b99aa698f6af02695ea6570"), looks := false }, kinds := [], alts := [], laidByText := true, laidKinds := [.data], laidTests := true, laidLooks := .later }
def BoundRisesCardSaid : Prop := Claim7.holds Tryd.pinned (.plain (OpenSpec.ofChange boundRisesSpec)) boundRisesCard

/-- THE SECOND FORM's CARD OF 'weighlocklaw17.BuildNames'. -/
def buildNamesUptoCard : Claim7 := { stood := { row := buildNamesUptoRow, standIns := [], harness := (true, "b340e8a419291ec7c70d7f193b5ff037c7fc45640b99aa698f6af02695ea6570"), looks := false }, kinds := [], alts := [], laidByText := true, laidKinds := [.widerDeep], laidTests := true, laidLooks := .later }
def BuildNamesUptoCardSaid : Prop := Claim7.holds Tryd.pinned (.plain (OpenSpec.upto buildNamesSpec)) buildNamesUptoCard

/-- THE SECOND FORM's CARD OF 'weighlocklaw27.BoundRises'. -/
def boundRisesUptoCard : Claim7 := { stood := { row := boundRisesUptoRow, standIns := [], harness := (true, "b340e8a419291ec7c70d7f193b5ff037c7fc45640b99aa698f6af02695ea6570"), looks := false }, kinds := [], alts := [], laidByText := true, laidKinds := [.data], laidTests := true, laidLooks := .later }
def BoundRisesUptoCardSaid : Prop := Claim7.holds Tryd.pinned (.plain (OpenSpec.upto boundRisesSpec)) boundRisesUptoCard
end Rows
end Go.Proofs.YtmccmanekbiadaaDoor
