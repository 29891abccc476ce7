/-
  DERIVED. GIVEN WITH THE SEED: THE CARDS: each row of YtcpiapenagbapaaDoorRows.lean that lists a variable, with what it lists TIED to the program's text (the seventh form; the later family's looks); each row that meets fmt, with fmt's text TOLD by the authors' own Lean function (tested against real Go, not proved from fmt's source: count such statements apart). THE CARD IS WHAT COUNTS. Prove the row's statement (the work); the ties are given (YtcpiapenagbapaaDoorTie.lean); close each card by the builder's one call (the guide's Derived/Test/ToyasCard.lean, 'card_holds'). Laid BY PROGRAM, IN A SANDBOX (cutbox-door.mjs). By AI agents, Wed Nov 11 2026. No macro, syntax, notation, axiom, sorry.
-/
import Derived.Test.YtcpiapenagbapaaDoorRows
import GoSem.ClaimSeven
namespace Go.Proofs.YtcpiapenagbapaaDoor
namespace Rows

/-- THE TIED CARD OF 'chargeparklaw36.PlateMatchesReference'. -/
def plateMatchesReferenceCard : Claim7 := { stood := { row := plateMatchesReferenceRow, standIns := [], harness := (true, "d29c5b1d3904b14e6d858964d15dd7b529a73a6814c48dd491a87b7331100f28"), looks := false }, kinds := [], alts := [], laidByText := true, laidKinds := [.data], laidTests := true, laidLooks := .later }
def PlateMatchesReferenceCardSaid : Prop := Claim7.holds Tryd.pinned (.plain (OpenSpec.ofChange plateMatchesReferenceSpec)) plateMatchesReferenceCard

/-- THE TIED CARD OF 'chargeparklaw36.PlateMetric'. -/
def plateMetricCard : Claim7 := { stood := { row := plateMetricRow, standIns := [], harness := (true, "d29c5b1d3904b14e6d858964d15dd7b529a73a6814c48dd491a87b7331100f28"), looks := false }, kinds := [], alts := [], laidByText := true, laidKinds := [.data], laidTests := true, laidLooks := .later }
def PlateMetricCardSaid : Prop := Claim7.holds Tryd.pinned (.plain (OpenSpec.ofChange plateMetricSpec)) plateMetricCard

/-- THE TIED CARD OF 'chargeparklaw36.PlateEdits'. -/
def plateEditsCard : Claim7 := { stood := { row := plateEditsRow, standIns := [], harness := (true, "d29c5b1d3904b14e6d858964d15dd7b529a73a6814c48dd491a87b7331100f28"), looks := false }, kinds := [], alts := [], laidByText := true, laidKinds := [.data], laidTests := true, laidLooks := .later }
def PlateEditsCardSaid : Prop := Claim7.holds Tryd.pinned (.plain (OpenSpec.ofChange plateEditsSpec)) plateEditsCard

/-- THE TIED CARD OF 'chargeparklaw36.PlateBounds'. -/
def plateBoundsCard : Claim7 := { stood := { row := plateBoundsRow, standIns := [], harness := (true, "d29c5b1d3904b14e6d858964d15dd7b529a73a6814c48dd491a87b7331100f28"), looks := false }, kinds := [], alts := [], laidByText := true, laidKinds := [.data], laidTests := true, laidLooks := .later }
def PlateBoundsCardSaid : Prop := Claim7.holds Tryd.pinned (.plain (OpenSpec.ofChange plateBoundsSpec)) plateBoundsCard

/-- THE TIED CARD OF 'chargeparklaw36.PlateParts'. -/
def platePartsCard : Claim7 := { stood := { row := platePartsRow, standIns := [], harness := (true, "d29c5b1d3904b14e6d858964d15dd7b529a73a6814c48dd491a87b7331100f28"), looks := false }, kinds := [], alts := [], laidByText := true, laidKinds := [.data], laidTests := true, laidLooks := .later }
def PlatePartsCardSaid : Prop := Claim7.holds Tryd.pinned (.plain (OpenSpec.ofChange platePartsSpec)) platePartsCard

/-- THE TIED CARD OF 'chargeparklaw36.PlateConfusable'. -/
def plateConfusableCard : Claim7 := { stood := { row := plateConfusableRow, standIns := [], harness := (true, "d29c5b1d3904b14e6d858964d15dd7b529a73a6814c48dd491a87b7331100f28"), looks := false }, kinds := [], alts := [], laidByText := true, laidKinds := [.data], laidTests := true, laidLooks := .later }
def PlateConfusableCardSaid : Prop := Claim7.holds Tryd.pinned (.plain (OpenSpec.ofChange plateConfusableSpec)) plateConfusableCard

/-- THE SECOND FORM's CARD OF 'chargeparklaw36.PlateMatchesReference'. -/
def plateMatchesReferenceUptoCard : Claim7 := { stood := { row := plateMatchesReferenceUptoRow, standIns := [], harness := (true, "d29c5b1d3904b14e6d858964d15dd7b529a73a6814c48dd491a87b7331100f28"), looks := false }, kinds := [], alts := [], laidByText := true, laidKinds := [.data], laidTests := true, laidLooks := .later }
def PlateMatchesReferenceUptoCardSaid : Prop := Claim7.holds Tryd.pinned (.plain (OpenSpec.upto plateMatchesReferenceSpec)) plateMatchesReferenceUptoCard

/-- THE SECOND FORM's CARD OF 'chargeparklaw36.PlateMetric'. -/
def plateMetricUptoCard : Claim7 := { stood := { row := plateMetricUptoRow, standIns := [], harness := (true, "d29c5b1d3904b14e6d858964d15dd7b529a73a6814c48dd491a87b7331100f28"), looks := false }, kinds := [], alts := [], laidByText := true, laidKinds := [.data], laidTests := true, laidLooks := .later }
def PlateMetricUptoCardSaid : Prop := Claim7.holds Tryd.pinned (.plain (OpenSpec.upto plateMetricSpec)) plateMetricUptoCard

/-- THE SECOND FORM's CARD OF 'chargeparklaw36.PlateEdits'. -/
def plateEditsUptoCard : Claim7 := { stood := { row := plateEditsUptoRow, standIns := [], harness := (true, "d29c5b1d3904b14e6d858964d15dd7b529a73a6814c48dd491a87b7331100f28"), looks := false }, kinds := [], alts := [], laidByText := true, laidKinds := [.data], laidTests := true, laidLooks := .later }
def PlateEditsUptoCardSaid : Prop := Claim7.holds Tryd.pinned (.plain (OpenSpec.upto plateEditsSpec)) plateEditsUptoCard

/-- THE SECOND FORM's CARD OF 'chargeparklaw36.PlateBounds'. -/
def plateBoundsUptoCard : Claim7 := { stood := { row := plateBoundsUptoRow, standIns := [], harness := (true, "d29c5b1d3904b14e6d858964d15dd7b529a73a6814c48dd491a87b7331100f28"), looks := false }, kinds := [], alts := [], laidByText := true, laidKinds := [.data], laidTests := true, laidLooks := .later }
def PlateBoundsUptoCardSaid : Prop := Claim7.holds Tryd.pinned (.plain (OpenSpec.upto plateBoundsSpec)) plateBoundsUptoCard

/-- THE SECOND FORM's CARD OF 'chargeparklaw36.PlateParts'. -/
def platePartsUptoCard : Claim7 := { stood := { row := platePartsUptoRow, standIns := [], harness := (true, "d29c5b1d3904b14e6d858964d15dd7b529a73a6814c48dd491a87b7331100f28"), looks := false }, kinds := [], alts := [], laidByText := true, laidKinds := [.data], laidTests := true, laidLooks := .later }
def PlatePartsUptoCardSaid : Prop := Claim7.holds Tryd.pinned (.plain (OpenSpec.upto platePartsSpec)) platePartsUptoCard

/-- THE SECOND FORM's CARD OF 'chargeparklaw36.PlateConfusable'. -/
def plateConfusableUptoCard : Claim7 := { stood := { row := plateConfusableUptoRow, standIns := [], harness := (true, "d29c5b1d3904b14e6d858964d15dd7b529a73a6814c48dd491a87b7331100f28"), looks := false }, kinds := [], alts := [], laidByText := true, laidKinds := [.data], laidTests := true, laidLooks := .later }
def PlateConfusableUptoCardSaid : Prop := Claim7.holds Tryd.pinned (.plain (OpenSpec.upto plateConfusableSpec)) plateConfusableUptoCard
end Rows
end Go.Proofs.YtcpiapenagbapaaDoor
