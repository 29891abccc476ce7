/-
  NARROWER THAN 'FOR EVERY INPUT', by the rows' own cells (each row's printed sentence says how): PlateMatchesReference: laid · PlateMetric: laid · PlateEdits: laid · PlateBounds: laid · PlateParts: laid · PlateConfusable: laid.
  DERIVED. THE GIVEN ROWS OF THIS SEAT. 6 by the template 'for every input the law returns true; each argument reads behind the call as it read before'; 0 by the template 'total and deterministic' (their statements: YtcpiapenagbapaaDoorTotals.lean).
  GIVEN WITH THE SEED: the statements are not yours to turn. If you find one false, say at which input.
  Laid BY PROGRAM, IN A SANDBOX (cutbox-rows.mjs): the forced cells as the released guide's own fill.sh prints them over the translation aa704f51a9daf523… (all of the seat's roots in one cut). By AI agents, Wed Nov 11 2026. No macro, syntax, notation, axiom, sorry.
-/
import Derived.Test.YtcpiapenagbapaaDoorChecked
import GoSem.Claim
import GoSem.ClaimJoined
import GoSem.ClaimMapViews
import Derived.JoinedTies
import Derived.KernelRfl
namespace Go.Proofs.YtcpiapenagbapaaDoor
/- THE CELL 'sum', in the pinned program and in every row, IS THE sha256 OF THE DUMP (.gsa) THAT YtcpiapenagbapaaDoorProg.lean LOADS. Nothing in Lean hashes anything: it is a label: what it is worth is what the hold of that sum in a sandbox is worth. -/
noncomputable def Tryd.pinned : Pinned := { name := "ytcpiapenagbapaadoor", sum := "aa704f51a9daf523947d457d6acb4f46206585fb77bc72c188f3023844471f08", checked := Tryd.checked }
namespace Rows
def none {H : Type} : Left H := { results := [], args := [] }

/- WHAT THE LISTED PACKAGE-LEVEL VARIABLES READ AS WHEN THE CALL BEGINS. Each datum BY PROGRAM (the guide's laid-datum.mjs) off the statement by which the dump's own 'gosem.cut.vars' lays the variable. In a bare row this is a premise. The card (YtcpiapenagbapaaDoorCards.lean) ties it to the program's text. -/
def laid_chargepark_plate_twins {H : Type} : DataW H := .agg [.agg [.lit (.int .i32 79), .lit (.int .i32 48)], .agg [.lit (.int .i32 73), .lit (.int .i32 49)], .agg [.lit (.int .i32 66), .lit (.int .i32 56)], .agg [.lit (.int .i32 83), .lit (.int .i32 53)], .agg [.lit (.int .i32 90), .lit (.int .i32 50)]]

/-- 'chargeparklaw36.PlateMatchesReference': WHATEVER THE INPUT: true; the input reads as it did. -/
def plateMatchesReferenceSpec : ChangeSpec := { name := "plateMatchesReference", fn := fun _ => fun
  | [d1, d2] => { results := [.lit (.bool true)], args := [d1, d2] }
  | _ => none }
def plateMatchesReferenceRow : OpenClaim := { program := "ytcpiapenagbapaadoor", sum := "aa704f51a9daf523947d457d6acb4f46206585fb77bc72c188f3023844471f08", func := "chargepark/chargeparklaw36.PlateMatchesReference", spec := "plateMatchesReference", named := ["chargepark/plate.twins"], apart := false, laid := [("chargepark/plate.twins", laid_chargepark_plate_twins)] }
def PlateMatchesReferenceSaid : Prop := plateMatchesReferenceRow.holds Tryd.pinned (OpenSpec.ofChange plateMatchesReferenceSpec)

/-- ITS FALSE NEIGHBOUR: 'it returns false'. Refute it at one input. -/
def plateMatchesReferenceWrong : ChangeSpec := { name := "plateMatchesReference", fn := fun _ => fun
  | [d1, d2] => { results := [.lit (.bool false)], args := [d1, d2] }
  | _ => none }
def PlateMatchesReferenceWrongFalsely : Prop := plateMatchesReferenceRow.holds Tryd.pinned (OpenSpec.ofChange plateMatchesReferenceWrong)

/-- 'chargeparklaw36.PlateMetric': WHATEVER THE INPUT: true; the input reads as it did. -/
def plateMetricSpec : ChangeSpec := { name := "plateMetric", fn := fun _ => fun
  | [d1, d2, d3] => { results := [.lit (.bool true)], args := [d1, d2, d3] }
  | _ => none }
def plateMetricRow : OpenClaim := { program := "ytcpiapenagbapaadoor", sum := "aa704f51a9daf523947d457d6acb4f46206585fb77bc72c188f3023844471f08", func := "chargepark/chargeparklaw36.PlateMetric", spec := "plateMetric", named := ["chargepark/plate.twins"], apart := false, laid := [("chargepark/plate.twins", laid_chargepark_plate_twins)] }
def PlateMetricSaid : Prop := plateMetricRow.holds Tryd.pinned (OpenSpec.ofChange plateMetricSpec)

/-- ITS FALSE NEIGHBOUR: 'it returns false'. Refute it at one input. -/
def plateMetricWrong : ChangeSpec := { name := "plateMetric", fn := fun _ => fun
  | [d1, d2, d3] => { results := [.lit (.bool false)], args := [d1, d2, d3] }
  | _ => none }
def PlateMetricWrongFalsely : Prop := plateMetricRow.holds Tryd.pinned (OpenSpec.ofChange plateMetricWrong)

/-- 'chargeparklaw36.PlateEdits': WHATEVER THE INPUT: true; the input reads as it did. -/
def plateEditsSpec : ChangeSpec := { name := "plateEdits", fn := fun _ => fun
  | [d1, d2, d3, d4, d5] => { results := [.lit (.bool true)], args := [d1, d2, d3, d4, d5] }
  | _ => none }
def plateEditsRow : OpenClaim := { program := "ytcpiapenagbapaadoor", sum := "aa704f51a9daf523947d457d6acb4f46206585fb77bc72c188f3023844471f08", func := "chargepark/chargeparklaw36.PlateEdits", spec := "plateEdits", named := ["chargepark/plate.twins"], apart := false, laid := [("chargepark/plate.twins", laid_chargepark_plate_twins)] }
def PlateEditsSaid : Prop := plateEditsRow.holds Tryd.pinned (OpenSpec.ofChange plateEditsSpec)

/-- ITS FALSE NEIGHBOUR: 'it returns false'. Refute it at one input. -/
def plateEditsWrong : ChangeSpec := { name := "plateEdits", fn := fun _ => fun
  | [d1, d2, d3, d4, d5] => { results := [.lit (.bool false)], args := [d1, d2, d3, d4, d5] }
  | _ => none }
def PlateEditsWrongFalsely : Prop := plateEditsRow.holds Tryd.pinned (OpenSpec.ofChange plateEditsWrong)

/-- 'chargeparklaw36.PlateBounds': WHATEVER THE INPUT: true; the input reads as it did. -/
def plateBoundsSpec : ChangeSpec := { name := "plateBounds", fn := fun _ => fun
  | [d1, d2] => { results := [.lit (.bool true)], args := [d1, d2] }
  | _ => none }
def plateBoundsRow : OpenClaim := { program := "ytcpiapenagbapaadoor", sum := "aa704f51a9daf523947d457d6acb4f46206585fb77bc72c188f3023844471f08", func := "chargepark/chargeparklaw36.PlateBounds", spec := "plateBounds", named := ["chargepark/plate.twins"], apart := false, laid := [("chargepark/plate.twins", laid_chargepark_plate_twins)] }
def PlateBoundsSaid : Prop := plateBoundsRow.holds Tryd.pinned (OpenSpec.ofChange plateBoundsSpec)

/-- ITS FALSE NEIGHBOUR: 'it returns false'. Refute it at one input. -/
def plateBoundsWrong : ChangeSpec := { name := "plateBounds", fn := fun _ => fun
  | [d1, d2] => { results := [.lit (.bool false)], args := [d1, d2] }
  | _ => none }
def PlateBoundsWrongFalsely : Prop := plateBoundsRow.holds Tryd.pinned (OpenSpec.ofChange plateBoundsWrong)

/-- 'chargeparklaw36.PlateParts': WHATEVER THE INPUT: true; the input reads as it did. -/
def platePartsSpec : ChangeSpec := { name := "plateParts", fn := fun _ => fun
  | [d1, d2, d3, d4] => { results := [.lit (.bool true)], args := [d1, d2, d3, d4] }
  | _ => none }
def platePartsRow : OpenClaim := { program := "ytcpiapenagbapaadoor", sum := "aa704f51a9daf523947d457d6acb4f46206585fb77bc72c188f3023844471f08", func := "chargepark/chargeparklaw36.PlateParts", spec := "plateParts", named := ["chargepark/plate.twins"], apart := false, laid := [("chargepark/plate.twins", laid_chargepark_plate_twins)] }
def PlatePartsSaid : Prop := platePartsRow.holds Tryd.pinned (OpenSpec.ofChange platePartsSpec)

/-- ITS FALSE NEIGHBOUR: 'it returns false'. Refute it at one input. -/
def platePartsWrong : ChangeSpec := { name := "plateParts", fn := fun _ => fun
  | [d1, d2, d3, d4] => { results := [.lit (.bool false)], args := [d1, d2, d3, d4] }
  | _ => none }
def PlatePartsWrongFalsely : Prop := platePartsRow.holds Tryd.pinned (OpenSpec.ofChange platePartsWrong)

/-- 'chargeparklaw36.PlateConfusable': WHATEVER THE INPUT: true; the input reads as it did. -/
def plateConfusableSpec : ChangeSpec := { name := "plateConfusable", fn := fun _ => fun
  | [d1, d2, d3] => { results := [.lit (.bool true)], args := [d1, d2, d3] }
  | _ => none }
def plateConfusableRow : OpenClaim := { program := "ytcpiapenagbapaadoor", sum := "aa704f51a9daf523947d457d6acb4f46206585fb77bc72c188f3023844471f08", func := "chargepark/chargeparklaw36.PlateConfusable", spec := "plateConfusable", named := ["chargepark/plate.twins"], apart := false, laid := [("chargepark/plate.twins", laid_chargepark_plate_twins)] }
def PlateConfusableSaid : Prop := plateConfusableRow.holds Tryd.pinned (OpenSpec.ofChange plateConfusableSpec)

/-- ITS FALSE NEIGHBOUR: 'it returns false'. Refute it at one input. -/
def plateConfusableWrong : ChangeSpec := { name := "plateConfusable", fn := fun _ => fun
  | [d1, d2, d3] => { results := [.lit (.bool false)], args := [d1, d2, d3] }
  | _ => none }
def PlateConfusableWrongFalsely : Prop := plateConfusableRow.holds Tryd.pinned (OpenSpec.ofChange plateConfusableWrong)

/- THE SECOND FORM. 'bulk': how many values and letters a reading holds, each counted each time it is reached (what is shared counts as often as it is met; a slice's spare places count too). A statement '..UptoSaid' is the law's where the arguments, and the package variables that the reading takes, are together of bulk at most 1048576: NARROWER than '..Said'. Prove '..Said' where nothing that the law and all that it calls make is longer than what came in: it says more and counts as full. Else prove '..UptoSaid'. A law counts once. -/
mutual
def uptoBulk {H : Type} : DataW H → Nat
  | .lit (.string bytes) => bytes.length + 1
  | .lit _ => 1
  | .nil => 1
  | .ptr d => uptoBulk d + 1
  | .slice elems spare => uptoBulkAll elems + uptoBulkAll spare + 1
  | .agg parts => uptoBulkAll parts + 1
  | .iface _ d => uptoBulk d + 1
  | .map entries => uptoBulkEntries entries + 1
  | .held _ => 1
def uptoBulkAll {H : Type} : List (DataW H) → Nat
  | [] => 0
  | d :: r => uptoBulk d + uptoBulkAll r
def uptoBulkEntries {H : Type} : List (Lit × DataW H) → Nat
  | [] => 0
  | x :: r => uptoBulkEntry x + uptoBulkEntries r
def uptoBulkEntry {H : Type} : Lit × DataW H → Nat
  | (.string bytes, d) => bytes.length + uptoBulk d + 1
  | (_, d) => uptoBulk d + 1
 end
def uptoSmall : (H : Type) → List (DataW H) → Bool := fun _ ds => decide (uptoBulkAll ds ≤ 1048576)
def OpenSpec.upto (s : _root_.Go.ChangeSpec) : _root_.Go.OpenSpec := { _root_.Go.OpenSpec.ofChange s with cond := some uptoSmall }

/-- 'chargeparklaw36.PlateMatchesReference', WHERE WHAT IT READS IS OF BULK AT MOST 1048576: true; the input reads as it did. -/
def plateMatchesReferenceUptoRow : OpenClaim := { program := "ytcpiapenagbapaadoor", sum := "aa704f51a9daf523947d457d6acb4f46206585fb77bc72c188f3023844471f08", func := "chargepark/chargeparklaw36.PlateMatchesReference", spec := "plateMatchesReference", named := ["chargepark/plate.twins"], apart := false, laid := [("chargepark/plate.twins", laid_chargepark_plate_twins)], narrowed := true }
def PlateMatchesReferenceUptoSaid : Prop := plateMatchesReferenceUptoRow.holds Tryd.pinned (OpenSpec.upto plateMatchesReferenceSpec)

/-- 'chargeparklaw36.PlateMetric', WHERE WHAT IT READS IS OF BULK AT MOST 1048576: true; the input reads as it did. -/
def plateMetricUptoRow : OpenClaim := { program := "ytcpiapenagbapaadoor", sum := "aa704f51a9daf523947d457d6acb4f46206585fb77bc72c188f3023844471f08", func := "chargepark/chargeparklaw36.PlateMetric", spec := "plateMetric", named := ["chargepark/plate.twins"], apart := false, laid := [("chargepark/plate.twins", laid_chargepark_plate_twins)], narrowed := true }
def PlateMetricUptoSaid : Prop := plateMetricUptoRow.holds Tryd.pinned (OpenSpec.upto plateMetricSpec)

/-- 'chargeparklaw36.PlateEdits', WHERE WHAT IT READS IS OF BULK AT MOST 1048576: true; the input reads as it did. -/
def plateEditsUptoRow : OpenClaim := { program := "ytcpiapenagbapaadoor", sum := "aa704f51a9daf523947d457d6acb4f46206585fb77bc72c188f3023844471f08", func := "chargepark/chargeparklaw36.PlateEdits", spec := "plateEdits", named := ["chargepark/plate.twins"], apart := false, laid := [("chargepark/plate.twins", laid_chargepark_plate_twins)], narrowed := true }
def PlateEditsUptoSaid : Prop := plateEditsUptoRow.holds Tryd.pinned (OpenSpec.upto plateEditsSpec)

/-- 'chargeparklaw36.PlateBounds', WHERE WHAT IT READS IS OF BULK AT MOST 1048576: true; the input reads as it did. -/
def plateBoundsUptoRow : OpenClaim := { program := "ytcpiapenagbapaadoor", sum := "aa704f51a9daf523947d457d6acb4f46206585fb77bc72c188f3023844471f08", func := "chargepark/chargeparklaw36.PlateBounds", spec := "plateBounds", named := ["chargepark/plate.twins"], apart := false, laid := [("chargepark/plate.twins", laid_chargepark_plate_twins)], narrowed := true }
def PlateBoundsUptoSaid : Prop := plateBoundsUptoRow.holds Tryd.pinned (OpenSpec.upto plateBoundsSpec)

/-- 'chargeparklaw36.PlateParts', WHERE WHAT IT READS IS OF BULK AT MOST 1048576: true; the input reads as it did. -/
def platePartsUptoRow : OpenClaim := { program := "ytcpiapenagbapaadoor", sum := "aa704f51a9daf523947d457d6acb4f46206585fb77bc72c188f3023844471f08", func := "chargepark/chargeparklaw36.PlateParts", spec := "plateParts", named := ["chargepark/plate.twins"], apart := false, laid := [("chargepark/plate.twins", laid_chargepark_plate_twins)], narrowed := true }
def PlatePartsUptoSaid : Prop := platePartsUptoRow.holds Tryd.pinned (OpenSpec.upto platePartsSpec)

/-- 'chargeparklaw36.PlateConfusable', WHERE WHAT IT READS IS OF BULK AT MOST 1048576: true; the input reads as it did. -/
def plateConfusableUptoRow : OpenClaim := { program := "ytcpiapenagbapaadoor", sum := "aa704f51a9daf523947d457d6acb4f46206585fb77bc72c188f3023844471f08", func := "chargepark/chargeparklaw36.PlateConfusable", spec := "plateConfusable", named := ["chargepark/plate.twins"], apart := false, laid := [("chargepark/plate.twins", laid_chargepark_plate_twins)], narrowed := true }
def PlateConfusableUptoSaid : Prop := plateConfusableUptoRow.holds Tryd.pinned (OpenSpec.upto plateConfusableSpec)

end Rows
end Go.Proofs.YtcpiapenagbapaaDoor
