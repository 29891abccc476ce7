/-
  No cell of these rows narrows 'for every input' (looked for: loops, veiled, ifaces, maps, wideKeys, modest, calm, conditions, laid).
  DERIVED. THE GIVEN ROWS OF THIS SEAT. 7 by the template 'for every input the law returns true; each argument reads behind the call as it read before'; 0 by the template 'total and deterministic' (their statements: YtfkehboecnoaiaaTotals.lean).
  GIVEN WITH THE SEED: the statements are not yours to turn. If you find one false, say at which input.
  Laid BY PROGRAM, IN A SANDBOX (cutbox-rows.mjs): the forced cells as the released guide's own fill.sh prints them over the translation 34e94ed1c5d7b791… (all of the seat's roots in one cut). By AI agents, Wed Nov 11 2026. No macro, syntax, notation, axiom, sorry.
-/
import Derived.Test.YtfkehboecnoaiaaChecked
import GoSem.Claim
import GoSem.ClaimJoined
import GoSem.ClaimMapViews
import Derived.JoinedTies
import Derived.KernelRfl
namespace Go.Proofs.Ytfkehboecnoaiaa
/- THE CELL 'sum', in the pinned program and in every row, IS THE sha256 OF THE DUMP (.gsa) THAT YtfkehboecnoaiaaProg.lean LOADS. Nothing in Lean hashes anything: it is a label: what it is worth is what the hold of that sum in a sandbox is worth. -/
noncomputable def Try.pinned : Pinned := { name := "ytfkehboecnoaiaa", sum := "34e94ed1c5d7b791e0106a67c929fd2ce5a4d84f910bae0b41ac96c6d547eb90", checked := Try.checked }
namespace Rows
def none {H : Type} : Left H := { results := [], args := [] }

/-- 'chargeparklaw15.ClockMatchesReference': WHATEVER THE INPUT: true; the input reads as it did. -/
def clockMatchesReferenceSpec : ChangeSpec := { name := "clockMatchesReference", fn := fun _ => fun
  | [d1, d2] => { results := [.lit (.bool true)], args := [d1, d2] }
  | _ => none }
def clockMatchesReferenceRow : OpenClaim := { program := "ytfkehboecnoaiaa", sum := "34e94ed1c5d7b791e0106a67c929fd2ce5a4d84f910bae0b41ac96c6d547eb90", func := "chargepark/chargeparklaw15.ClockMatchesReference", spec := "clockMatchesReference", unfollowed := true, recurses := true, apart := false }
def ClockMatchesReferenceSaid : Prop := clockMatchesReferenceRow.holds Try.pinned (OpenSpec.ofChange clockMatchesReferenceSpec)

/-- ITS FALSE NEIGHBOUR: 'it returns false'. Refute it at one input. -/
def clockMatchesReferenceWrong : ChangeSpec := { name := "clockMatchesReference", fn := fun _ => fun
  | [d1, d2] => { results := [.lit (.bool false)], args := [d1, d2] }
  | _ => none }
def ClockMatchesReferenceWrongFalsely : Prop := clockMatchesReferenceRow.holds Try.pinned (OpenSpec.ofChange clockMatchesReferenceWrong)

/-- 'chargeparklaw15.ClockBounds': WHATEVER THE INPUT: true; the input reads as it did. -/
def clockBoundsSpec : ChangeSpec := { name := "clockBounds", fn := fun _ => fun
  | [d1, d2] => { results := [.lit (.bool true)], args := [d1, d2] }
  | _ => none }
def clockBoundsRow : OpenClaim := { program := "ytfkehboecnoaiaa", sum := "34e94ed1c5d7b791e0106a67c929fd2ce5a4d84f910bae0b41ac96c6d547eb90", func := "chargepark/chargeparklaw15.ClockBounds", spec := "clockBounds", unfollowed := true, recurses := true, apart := false }
def ClockBoundsSaid : Prop := clockBoundsRow.holds Try.pinned (OpenSpec.ofChange clockBoundsSpec)

/-- ITS FALSE NEIGHBOUR: 'it returns false'. Refute it at one input. -/
def clockBoundsWrong : ChangeSpec := { name := "clockBounds", fn := fun _ => fun
  | [d1, d2] => { results := [.lit (.bool false)], args := [d1, d2] }
  | _ => none }
def ClockBoundsWrongFalsely : Prop := clockBoundsRow.holds Try.pinned (OpenSpec.ofChange clockBoundsWrong)

/-- 'chargeparklaw15.ClockWaiting': WHATEVER THE INPUT: true; the input reads as it did. -/
def clockWaitingSpec : ChangeSpec := { name := "clockWaiting", fn := fun _ => fun
  | [d1, d2] => { results := [.lit (.bool true)], args := [d1, d2] }
  | _ => none }
def clockWaitingRow : OpenClaim := { program := "ytfkehboecnoaiaa", sum := "34e94ed1c5d7b791e0106a67c929fd2ce5a4d84f910bae0b41ac96c6d547eb90", func := "chargepark/chargeparklaw15.ClockWaiting", spec := "clockWaiting", unfollowed := true, recurses := true, apart := false }
def ClockWaitingSaid : Prop := clockWaitingRow.holds Try.pinned (OpenSpec.ofChange clockWaitingSpec)

/-- ITS FALSE NEIGHBOUR: 'it returns false'. Refute it at one input. -/
def clockWaitingWrong : ChangeSpec := { name := "clockWaiting", fn := fun _ => fun
  | [d1, d2] => { results := [.lit (.bool false)], args := [d1, d2] }
  | _ => none }
def ClockWaitingWrongFalsely : Prop := clockWaitingRow.holds Try.pinned (OpenSpec.ofChange clockWaitingWrong)

/-- 'chargeparklaw15.ClockEarly': WHATEVER THE INPUT: true; the input reads as it did. -/
def clockEarlySpec : ChangeSpec := { name := "clockEarly", fn := fun _ => fun
  | [d1, d2, d3] => { results := [.lit (.bool true)], args := [d1, d2, d3] }
  | _ => none }
def clockEarlyRow : OpenClaim := { program := "ytfkehboecnoaiaa", sum := "34e94ed1c5d7b791e0106a67c929fd2ce5a4d84f910bae0b41ac96c6d547eb90", func := "chargepark/chargeparklaw15.ClockEarly", spec := "clockEarly", unfollowed := true, recurses := true, apart := false }
def ClockEarlySaid : Prop := clockEarlyRow.holds Try.pinned (OpenSpec.ofChange clockEarlySpec)

/-- ITS FALSE NEIGHBOUR: 'it returns false'. Refute it at one input. -/
def clockEarlyWrong : ChangeSpec := { name := "clockEarly", fn := fun _ => fun
  | [d1, d2, d3] => { results := [.lit (.bool false)], args := [d1, d2, d3] }
  | _ => none }
def ClockEarlyWrongFalsely : Prop := clockEarlyRow.holds Try.pinned (OpenSpec.ofChange clockEarlyWrong)

/-- 'chargeparklaw15.ClockOrder': WHATEVER THE INPUT: true; the input reads as it did. -/
def clockOrderSpec : ChangeSpec := { name := "clockOrder", fn := fun _ => fun
  | [d1, d2, d3, d4] => { results := [.lit (.bool true)], args := [d1, d2, d3, d4] }
  | _ => none }
def clockOrderRow : OpenClaim := { program := "ytfkehboecnoaiaa", sum := "34e94ed1c5d7b791e0106a67c929fd2ce5a4d84f910bae0b41ac96c6d547eb90", func := "chargepark/chargeparklaw15.ClockOrder", spec := "clockOrder", unfollowed := true, recurses := true, apart := false }
def ClockOrderSaid : Prop := clockOrderRow.holds Try.pinned (OpenSpec.ofChange clockOrderSpec)

/-- ITS FALSE NEIGHBOUR: 'it returns false'. Refute it at one input. -/
def clockOrderWrong : ChangeSpec := { name := "clockOrder", fn := fun _ => fun
  | [d1, d2, d3, d4] => { results := [.lit (.bool false)], args := [d1, d2, d3, d4] }
  | _ => none }
def ClockOrderWrongFalsely : Prop := clockOrderRow.holds Try.pinned (OpenSpec.ofChange clockOrderWrong)

/-- 'chargeparklaw15.ClockParts': WHATEVER THE INPUT: true; the input reads as it did. -/
def clockPartsSpec : ChangeSpec := { name := "clockParts", fn := fun _ => fun
  | [d1, d2, d3] => { results := [.lit (.bool true)], args := [d1, d2, d3] }
  | _ => none }
def clockPartsRow : OpenClaim := { program := "ytfkehboecnoaiaa", sum := "34e94ed1c5d7b791e0106a67c929fd2ce5a4d84f910bae0b41ac96c6d547eb90", func := "chargepark/chargeparklaw15.ClockParts", spec := "clockParts", unfollowed := true, recurses := true, apart := false }
def ClockPartsSaid : Prop := clockPartsRow.holds Try.pinned (OpenSpec.ofChange clockPartsSpec)

/-- ITS FALSE NEIGHBOUR: 'it returns false'. Refute it at one input. -/
def clockPartsWrong : ChangeSpec := { name := "clockParts", fn := fun _ => fun
  | [d1, d2, d3] => { results := [.lit (.bool false)], args := [d1, d2, d3] }
  | _ => none }
def ClockPartsWrongFalsely : Prop := clockPartsRow.holds Try.pinned (OpenSpec.ofChange clockPartsWrong)

/-- 'chargeparklaw15.ClockAgain': WHATEVER THE INPUT: true; the input reads as it did. -/
def clockAgainSpec : ChangeSpec := { name := "clockAgain", fn := fun _ => fun
  | [d] => { results := [.lit (.bool true)], args := [d] }
  | _ => none }
def clockAgainRow : OpenClaim := { program := "ytfkehboecnoaiaa", sum := "34e94ed1c5d7b791e0106a67c929fd2ce5a4d84f910bae0b41ac96c6d547eb90", func := "chargepark/chargeparklaw15.ClockAgain", spec := "clockAgain", unfollowed := true, recurses := true, apart := false }
def ClockAgainSaid : Prop := clockAgainRow.holds Try.pinned (OpenSpec.ofChange clockAgainSpec)

/-- ITS FALSE NEIGHBOUR: 'it returns false'. Refute it at one input. -/
def clockAgainWrong : ChangeSpec := { name := "clockAgain", fn := fun _ => fun
  | [d] => { results := [.lit (.bool false)], args := [d] }
  | _ => none }
def ClockAgainWrongFalsely : Prop := clockAgainRow.holds Try.pinned (OpenSpec.ofChange clockAgainWrong)

/- THE SECOND FORM. 'bulk': how many values and letters a reading holds, each counted each time it is reached (what is shared counts as often as it is met; a slice's spare places count too). A statement '..UptoSaid' is the law's where the arguments, and the package variables that the reading takes, are together of bulk at most 1048576: NARROWER than '..Said'. Prove '..Said' where nothing that the law and all that it calls make is longer than what came in: it says more and counts as full. Else prove '..UptoSaid'. A law counts once. -/
mutual
def uptoBulk {H : Type} : DataW H → Nat
  | .lit (.string bytes) => bytes.length + 1
  | .lit _ => 1
  | .nil => 1
  | .ptr d => uptoBulk d + 1
  | .slice elems spare => uptoBulkAll elems + uptoBulkAll spare + 1
  | .agg parts => uptoBulkAll parts + 1
  | .iface _ d => uptoBulk d + 1
  | .map entries => uptoBulkEntries entries + 1
  | .held _ => 1
def uptoBulkAll {H : Type} : List (DataW H) → Nat
  | [] => 0
  | d :: r => uptoBulk d + uptoBulkAll r
def uptoBulkEntries {H : Type} : List (Lit × DataW H) → Nat
  | [] => 0
  | x :: r => uptoBulkEntry x + uptoBulkEntries r
def uptoBulkEntry {H : Type} : Lit × DataW H → Nat
  | (.string bytes, d) => bytes.length + uptoBulk d + 1
  | (_, d) => uptoBulk d + 1
 end
def uptoSmall : (H : Type) → List (DataW H) → Bool := fun _ ds => decide (uptoBulkAll ds ≤ 1048576)
def OpenSpec.upto (s : _root_.Go.ChangeSpec) : _root_.Go.OpenSpec := { _root_.Go.OpenSpec.ofChange s with cond := some uptoSmall }

/-- 'chargeparklaw15.ClockMatchesReference', WHERE WHAT IT READS IS OF BULK AT MOST 1048576: true; the input reads as it did. -/
def clockMatchesReferenceUptoRow : OpenClaim := { program := "ytfkehboecnoaiaa", sum := "34e94ed1c5d7b791e0106a67c929fd2ce5a4d84f910bae0b41ac96c6d547eb90", func := "chargepark/chargeparklaw15.ClockMatchesReference", spec := "clockMatchesReference", unfollowed := true, recurses := true, apart := false, narrowed := true }
def ClockMatchesReferenceUptoSaid : Prop := clockMatchesReferenceUptoRow.holds Try.pinned (OpenSpec.upto clockMatchesReferenceSpec)

/-- 'chargeparklaw15.ClockBounds', WHERE WHAT IT READS IS OF BULK AT MOST 1048576: true; the input reads as it did. -/
def clockBoundsUptoRow : OpenClaim := { program := "ytfkehboecnoaiaa", sum := "34e94ed1c5d7b791e0106a67c929fd2ce5a4d84f910bae0b41ac96c6d547eb90", func := "chargepark/chargeparklaw15.ClockBounds", spec := "clockBounds", unfollowed := true, recurses := true, apart := false, narrowed := true }
def ClockBoundsUptoSaid : Prop := clockBoundsUptoRow.holds Try.pinned (OpenSpec.upto clockBoundsSpec)

/-- 'chargeparklaw15.ClockWaiting', WHERE WHAT IT READS IS OF BULK AT MOST 1048576: true; the input reads as it did. -/
def clockWaitingUptoRow : OpenClaim := { program := "ytfkehboecnoaiaa", sum := "34e94ed1c5d7b791e0106a67c929fd2ce5a4d84f910bae0b41ac96c6d547eb90", func := "chargepark/chargeparklaw15.ClockWaiting", spec := "clockWaiting", unfollowed := true, recurses := true, apart := false, narrowed := true }
def ClockWaitingUptoSaid : Prop := clockWaitingUptoRow.holds Try.pinned (OpenSpec.upto clockWaitingSpec)

/-- 'chargeparklaw15.ClockEarly', WHERE WHAT IT READS IS OF BULK AT MOST 1048576: true; the input reads as it did. -/
def clockEarlyUptoRow : OpenClaim := { program := "ytfkehboecnoaiaa", sum := "34e94ed1c5d7b791e0106a67c929fd2ce5a4d84f910bae0b41ac96c6d547eb90", func := "chargepark/chargeparklaw15.ClockEarly", spec := "clockEarly", unfollowed := true, recurses := true, apart := false, narrowed := true }
def ClockEarlyUptoSaid : Prop := clockEarlyUptoRow.holds Try.pinned (OpenSpec.upto clockEarlySpec)

/-- 'chargeparklaw15.ClockOrder', WHERE WHAT IT READS IS OF BULK AT MOST 1048576: true; the input reads as it did. -/
def clockOrderUptoRow : OpenClaim := { program := "ytfkehboecnoaiaa", sum := "34e94ed1c5d7b791e0106a67c929fd2ce5a4d84f910bae0b41ac96c6d547eb90", func := "chargepark/chargeparklaw15.ClockOrder", spec := "clockOrder", unfollowed := true, recurses := true, apart := false, narrowed := true }
def ClockOrderUptoSaid : Prop := clockOrderUptoRow.holds Try.pinned (OpenSpec.upto clockOrderSpec)

/-- 'chargeparklaw15.ClockParts', WHERE WHAT IT READS IS OF BULK AT MOST 1048576: true; the input reads as it did. -/
def clockPartsUptoRow : OpenClaim := { program := "ytfkehboecnoaiaa", sum := "34e94ed1c5d7b791e0106a67c929fd2ce5a4d84f910bae0b41ac96c6d547eb90", func := "chargepark/chargeparklaw15.ClockParts", spec := "clockParts", unfollowed := true, recurses := true, apart := false, narrowed := true }
def ClockPartsUptoSaid : Prop := clockPartsUptoRow.holds Try.pinned (OpenSpec.upto clockPartsSpec)

/-- 'chargeparklaw15.ClockAgain', WHERE WHAT IT READS IS OF BULK AT MOST 1048576: true; the input reads as it did. -/
def clockAgainUptoRow : OpenClaim := { program := "ytfkehboecnoaiaa", sum := "34e94ed1c5d7b791e0106a67c929fd2ce5a4d84f910bae0b41ac96c6d547eb90", func := "chargepark/chargeparklaw15.ClockAgain", spec := "clockAgain", unfollowed := true, recurses := true, apart := false, narrowed := true }
def ClockAgainUptoSaid : Prop := clockAgainUptoRow.holds Try.pinned (OpenSpec.upto clockAgainSpec)

end Rows
end Go.Proofs.Ytfkehboecnoaiaa
