/-
  No cell of these rows narrows 'for every input' (looked for: loops, veiled, ifaces, maps, wideKeys, modest, calm, conditions, laid).
  DERIVED. THE GIVEN ROWS OF THIS SEAT. 7 by the template 'for every input the law returns true; each argument reads behind the call as it read before'; 0 by the template 'total and deterministic' (their statements: YtdblbilgnfomaaaTotals.lean).
  GIVEN WITH THE SEED: the statements are not yours to turn. If you find one false, say at which input.
  Laid BY PROGRAM, IN A SANDBOX (cutbox-rows.mjs): the forced cells as the released guide's own fill.sh prints them over the translation adc4e5bfcd27a4cb… (all of the seat's roots in one cut). By AI agents, Wed Nov 11 2026. No macro, syntax, notation, axiom, sorry.
-/
import Derived.Test.YtdblbilgnfomaaaChecked
import GoSem.Claim
import GoSem.ClaimJoined
import GoSem.ClaimMapViews
import Derived.JoinedTies
import Derived.KernelRfl
namespace Go.Proofs.Ytdblbilgnfomaaa
/- THE CELL 'sum', in the pinned program and in every row, IS THE sha256 OF THE DUMP (.gsa) THAT YtdblbilgnfomaaaProg.lean LOADS. Nothing in Lean hashes anything: it is a label: what it is worth is what the hold of that sum in a sandbox is worth. -/
noncomputable def Try.pinned : Pinned := { name := "ytdblbilgnfomaaa", sum := "adc4e5bfcd27a4cbe51aa5caa78fae26655e89250f718bd39c3e8088078cf52d", checked := Try.checked }
namespace Rows
def none {H : Type} : Left H := { results := [], args := [] }

/-- 'chargeparklaw17.FlashMatchesReference': WHATEVER THE INPUT: true; the input reads as it did. -/
def flashMatchesReferenceSpec : ChangeSpec := { name := "flashMatchesReference", fn := fun _ => fun
  | [d1, d2, d3, d4, d5] => { results := [.lit (.bool true)], args := [d1, d2, d3, d4, d5] }
  | _ => none }
def flashMatchesReferenceRow : OpenClaim := { program := "ytdblbilgnfomaaa", sum := "adc4e5bfcd27a4cbe51aa5caa78fae26655e89250f718bd39c3e8088078cf52d", func := "chargepark/chargeparklaw17.FlashMatchesReference", spec := "flashMatchesReference", inPlace := ["internal/bytealg.MakeNoZero"], unfollowed := true, recurses := true, apart := false }
def FlashMatchesReferenceSaid : Prop := flashMatchesReferenceRow.holds Try.pinned (OpenSpec.ofChange flashMatchesReferenceSpec)

/-- ITS FALSE NEIGHBOUR: 'it returns false'. Refute it at one input. -/
def flashMatchesReferenceWrong : ChangeSpec := { name := "flashMatchesReference", fn := fun _ => fun
  | [d1, d2, d3, d4, d5] => { results := [.lit (.bool false)], args := [d1, d2, d3, d4, d5] }
  | _ => none }
def FlashMatchesReferenceWrongFalsely : Prop := flashMatchesReferenceRow.holds Try.pinned (OpenSpec.ofChange flashMatchesReferenceWrong)

/-- 'chargeparklaw17.FlashSteps': WHATEVER THE INPUT: true; the input reads as it did. -/
def flashStepsSpec : ChangeSpec := { name := "flashSteps", fn := fun _ => fun
  | [d1, d2, d3, d4] => { results := [.lit (.bool true)], args := [d1, d2, d3, d4] }
  | _ => none }
def flashStepsRow : OpenClaim := { program := "ytdblbilgnfomaaa", sum := "adc4e5bfcd27a4cbe51aa5caa78fae26655e89250f718bd39c3e8088078cf52d", func := "chargepark/chargeparklaw17.FlashSteps", spec := "flashSteps", inPlace := ["internal/bytealg.MakeNoZero"], unfollowed := true, recurses := true, apart := false }
def FlashStepsSaid : Prop := flashStepsRow.holds Try.pinned (OpenSpec.ofChange flashStepsSpec)

/-- ITS FALSE NEIGHBOUR: 'it returns false'. Refute it at one input. -/
def flashStepsWrong : ChangeSpec := { name := "flashSteps", fn := fun _ => fun
  | [d1, d2, d3, d4] => { results := [.lit (.bool false)], args := [d1, d2, d3, d4] }
  | _ => none }
def FlashStepsWrongFalsely : Prop := flashStepsRow.holds Try.pinned (OpenSpec.ofChange flashStepsWrong)

/-- 'chargeparklaw17.FlashErased': WHATEVER THE INPUT: true; the input reads as it did. -/
def flashErasedSpec : ChangeSpec := { name := "flashErased", fn := fun _ => fun
  | [d1, d2, d3, d4] => { results := [.lit (.bool true)], args := [d1, d2, d3, d4] }
  | _ => none }
def flashErasedRow : OpenClaim := { program := "ytdblbilgnfomaaa", sum := "adc4e5bfcd27a4cbe51aa5caa78fae26655e89250f718bd39c3e8088078cf52d", func := "chargepark/chargeparklaw17.FlashErased", spec := "flashErased", inPlace := ["internal/bytealg.MakeNoZero"], unfollowed := true, recurses := true, apart := false }
def FlashErasedSaid : Prop := flashErasedRow.holds Try.pinned (OpenSpec.ofChange flashErasedSpec)

/-- ITS FALSE NEIGHBOUR: 'it returns false'. Refute it at one input. -/
def flashErasedWrong : ChangeSpec := { name := "flashErased", fn := fun _ => fun
  | [d1, d2, d3, d4] => { results := [.lit (.bool false)], args := [d1, d2, d3, d4] }
  | _ => none }
def FlashErasedWrongFalsely : Prop := flashErasedRow.holds Try.pinned (OpenSpec.ofChange flashErasedWrong)

/-- 'chargeparklaw17.FlashAgain': WHATEVER THE INPUT: true; the input reads as it did. -/
def flashAgainSpec : ChangeSpec := { name := "flashAgain", fn := fun _ => fun
  | [d1, d2, d3, d4] => { results := [.lit (.bool true)], args := [d1, d2, d3, d4] }
  | _ => none }
def flashAgainRow : OpenClaim := { program := "ytdblbilgnfomaaa", sum := "adc4e5bfcd27a4cbe51aa5caa78fae26655e89250f718bd39c3e8088078cf52d", func := "chargepark/chargeparklaw17.FlashAgain", spec := "flashAgain", inPlace := ["internal/bytealg.MakeNoZero"], unfollowed := true, recurses := true, apart := false }
def FlashAgainSaid : Prop := flashAgainRow.holds Try.pinned (OpenSpec.ofChange flashAgainSpec)

/-- ITS FALSE NEIGHBOUR: 'it returns false'. Refute it at one input. -/
def flashAgainWrong : ChangeSpec := { name := "flashAgain", fn := fun _ => fun
  | [d1, d2, d3, d4] => { results := [.lit (.bool false)], args := [d1, d2, d3, d4] }
  | _ => none }
def FlashAgainWrongFalsely : Prop := flashAgainRow.holds Try.pinned (OpenSpec.ofChange flashAgainWrong)

/-- 'chargeparklaw17.FlashOrder': WHATEVER THE INPUT: true; the input reads as it did. -/
def flashOrderSpec : ChangeSpec := { name := "flashOrder", fn := fun _ => fun
  | [d1, d2, d3, d4, d5] => { results := [.lit (.bool true)], args := [d1, d2, d3, d4, d5] }
  | _ => none }
def flashOrderRow : OpenClaim := { program := "ytdblbilgnfomaaa", sum := "adc4e5bfcd27a4cbe51aa5caa78fae26655e89250f718bd39c3e8088078cf52d", func := "chargepark/chargeparklaw17.FlashOrder", spec := "flashOrder", inPlace := ["internal/bytealg.MakeNoZero"], unfollowed := true, recurses := true, apart := false }
def FlashOrderSaid : Prop := flashOrderRow.holds Try.pinned (OpenSpec.ofChange flashOrderSpec)

/-- ITS FALSE NEIGHBOUR: 'it returns false'. Refute it at one input. -/
def flashOrderWrong : ChangeSpec := { name := "flashOrder", fn := fun _ => fun
  | [d1, d2, d3, d4, d5] => { results := [.lit (.bool false)], args := [d1, d2, d3, d4, d5] }
  | _ => none }
def FlashOrderWrongFalsely : Prop := flashOrderRow.holds Try.pinned (OpenSpec.ofChange flashOrderWrong)

/-- 'chargeparklaw17.FlashErasing': WHATEVER THE INPUT: true; the input reads as it did. -/
def flashErasingSpec : ChangeSpec := { name := "flashErasing", fn := fun _ => fun
  | [d1, d2, d3] => { results := [.lit (.bool true)], args := [d1, d2, d3] }
  | _ => none }
def flashErasingRow : OpenClaim := { program := "ytdblbilgnfomaaa", sum := "adc4e5bfcd27a4cbe51aa5caa78fae26655e89250f718bd39c3e8088078cf52d", func := "chargepark/chargeparklaw17.FlashErasing", spec := "flashErasing", inPlace := ["internal/bytealg.MakeNoZero"], unfollowed := true, recurses := true, apart := false }
def FlashErasingSaid : Prop := flashErasingRow.holds Try.pinned (OpenSpec.ofChange flashErasingSpec)

/-- ITS FALSE NEIGHBOUR: 'it returns false'. Refute it at one input. -/
def flashErasingWrong : ChangeSpec := { name := "flashErasing", fn := fun _ => fun
  | [d1, d2, d3] => { results := [.lit (.bool false)], args := [d1, d2, d3] }
  | _ => none }
def FlashErasingWrongFalsely : Prop := flashErasingRow.holds Try.pinned (OpenSpec.ofChange flashErasingWrong)

/-- 'chargeparklaw17.FlashParts': WHATEVER THE INPUT: true; the input reads as it did. -/
def flashPartsSpec : ChangeSpec := { name := "flashParts", fn := fun _ => fun
  | [d1, d2, d3, d4] => { results := [.lit (.bool true)], args := [d1, d2, d3, d4] }
  | _ => none }
def flashPartsRow : OpenClaim := { program := "ytdblbilgnfomaaa", sum := "adc4e5bfcd27a4cbe51aa5caa78fae26655e89250f718bd39c3e8088078cf52d", func := "chargepark/chargeparklaw17.FlashParts", spec := "flashParts", inPlace := ["internal/bytealg.MakeNoZero"], unfollowed := true, recurses := true, apart := false }
def FlashPartsSaid : Prop := flashPartsRow.holds Try.pinned (OpenSpec.ofChange flashPartsSpec)

/-- ITS FALSE NEIGHBOUR: 'it returns false'. Refute it at one input. -/
def flashPartsWrong : ChangeSpec := { name := "flashParts", fn := fun _ => fun
  | [d1, d2, d3, d4] => { results := [.lit (.bool false)], args := [d1, d2, d3, d4] }
  | _ => none }
def FlashPartsWrongFalsely : Prop := flashPartsRow.holds Try.pinned (OpenSpec.ofChange flashPartsWrong)

/- THE SECOND FORM. 'bulk': how many values and letters a reading holds, each counted each time it is reached (what is shared counts as often as it is met; a slice's spare places count too). A statement '..UptoSaid' is the law's where the arguments, and the package variables that the reading takes, are together of bulk at most 1048576: NARROWER than '..Said'. Prove '..Said' where nothing that the law and all that it calls make is longer than what came in: it says more and counts as full. Else prove '..UptoSaid'. A law counts once. -/
mutual
def uptoBulk {H : Type} : DataW H → Nat
  | .lit (.string bytes) => bytes.length + 1
  | .lit _ => 1
  | .nil => 1
  | .ptr d => uptoBulk d + 1
  | .slice elems spare => uptoBulkAll elems + uptoBulkAll spare + 1
  | .agg parts => uptoBulkAll parts + 1
  | .iface _ d => uptoBulk d + 1
  | .map entries => uptoBulkEntries entries + 1
  | .held _ => 1
def uptoBulkAll {H : Type} : List (DataW H) → Nat
  | [] => 0
  | d :: r => uptoBulk d + uptoBulkAll r
def uptoBulkEntries {H : Type} : List (Lit × DataW H) → Nat
  | [] => 0
  | x :: r => uptoBulkEntry x + uptoBulkEntries r
def uptoBulkEntry {H : Type} : Lit × DataW H → Nat
  | (.string bytes, d) => bytes.length + uptoBulk d + 1
  | (_, d) => uptoBulk d + 1
 end
def uptoSmall : (H : Type) → List (DataW H) → Bool := fun _ ds => decide (uptoBulkAll ds ≤ 1048576)
def OpenSpec.upto (s : _root_.Go.ChangeSpec) : _root_.Go.OpenSpec := { _root_.Go.OpenSpec.ofChange s with cond := some uptoSmall }

/-- 'chargeparklaw17.FlashMatchesReference', WHERE WHAT IT READS IS OF BULK AT MOST 1048576: true; the input reads as it did. -/
def flashMatchesReferenceUptoRow : OpenClaim := { program := "ytdblbilgnfomaaa", sum := "adc4e5bfcd27a4cbe51aa5caa78fae26655e89250f718bd39c3e8088078cf52d", func := "chargepark/chargeparklaw17.FlashMatchesReference", spec := "flashMatchesReference", inPlace := ["internal/bytealg.MakeNoZero"], unfollowed := true, recurses := true, apart := false, narrowed := true }
def FlashMatchesReferenceUptoSaid : Prop := flashMatchesReferenceUptoRow.holds Try.pinned (OpenSpec.upto flashMatchesReferenceSpec)

/-- 'chargeparklaw17.FlashSteps', WHERE WHAT IT READS IS OF BULK AT MOST 1048576: true; the input reads as it did. -/
def flashStepsUptoRow : OpenClaim := { program := "ytdblbilgnfomaaa", sum := "adc4e5bfcd27a4cbe51aa5caa78fae26655e89250f718bd39c3e8088078cf52d", func := "chargepark/chargeparklaw17.FlashSteps", spec := "flashSteps", inPlace := ["internal/bytealg.MakeNoZero"], unfollowed := true, recurses := true, apart := false, narrowed := true }
def FlashStepsUptoSaid : Prop := flashStepsUptoRow.holds Try.pinned (OpenSpec.upto flashStepsSpec)

/-- 'chargeparklaw17.FlashErased', WHERE WHAT IT READS IS OF BULK AT MOST 1048576: true; the input reads as it did. -/
def flashErasedUptoRow : OpenClaim := { program := "ytdblbilgnfomaaa", sum := "adc4e5bfcd27a4cbe51aa5caa78fae26655e89250f718bd39c3e8088078cf52d", func := "chargepark/chargeparklaw17.FlashErased", spec := "flashErased", inPlace := ["internal/bytealg.MakeNoZero"], unfollowed := true, recurses := true, apart := false, narrowed := true }
def FlashErasedUptoSaid : Prop := flashErasedUptoRow.holds Try.pinned (OpenSpec.upto flashErasedSpec)

/-- 'chargeparklaw17.FlashAgain', WHERE WHAT IT READS IS OF BULK AT MOST 1048576: true; the input reads as it did. -/
def flashAgainUptoRow : OpenClaim := { program := "ytdblbilgnfomaaa", sum := "adc4e5bfcd27a4cbe51aa5caa78fae26655e89250f718bd39c3e8088078cf52d", func := "chargepark/chargeparklaw17.FlashAgain", spec := "flashAgain", inPlace := ["internal/bytealg.MakeNoZero"], unfollowed := true, recurses := true, apart := false, narrowed := true }
def FlashAgainUptoSaid : Prop := flashAgainUptoRow.holds Try.pinned (OpenSpec.upto flashAgainSpec)

/-- 'chargeparklaw17.FlashOrder', WHERE WHAT IT READS IS OF BULK AT MOST 1048576: true; the input reads as it did. -/
def flashOrderUptoRow : OpenClaim := { program := "ytdblbilgnfomaaa", sum := "adc4e5bfcd27a4cbe51aa5caa78fae26655e89250f718bd39c3e8088078cf52d", func := "chargepark/chargeparklaw17.FlashOrder", spec := "flashOrder", inPlace := ["internal/bytealg.MakeNoZero"], unfollowed := true, recurses := true, apart := false, narrowed := true }
def FlashOrderUptoSaid : Prop := flashOrderUptoRow.holds Try.pinned (OpenSpec.upto flashOrderSpec)

/-- 'chargeparklaw17.FlashErasing', WHERE WHAT IT READS IS OF BULK AT MOST 1048576: true; the input reads as it did. -/
def flashErasingUptoRow : OpenClaim := { program := "ytdblbilgnfomaaa", sum := "adc4e5bfcd27a4cbe51aa5caa78fae26655e89250f718bd39c3e8088078cf52d", func := "chargepark/chargeparklaw17.FlashErasing", spec := "flashErasing", inPlace := ["internal/bytealg.MakeNoZero"], unfollowed := true, recurses := true, apart := false, narrowed := true }
def FlashErasingUptoSaid : Prop := flashErasingUptoRow.holds Try.pinned (OpenSpec.upto flashErasingSpec)

/-- 'chargeparklaw17.FlashParts', WHERE WHAT IT READS IS OF BULK AT MOST 1048576: true; the input reads as it did. -/
def flashPartsUptoRow : OpenClaim := { program := "ytdblbilgnfomaaa", sum := "adc4e5bfcd27a4cbe51aa5caa78fae26655e89250f718bd39c3e8088078cf52d", func := "chargepark/chargeparklaw17.FlashParts", spec := "flashParts", inPlace := ["internal/bytealg.MakeNoZero"], unfollowed := true, recurses := true, apart := false, narrowed := true }
def FlashPartsUptoSaid : Prop := flashPartsUptoRow.holds Try.pinned (OpenSpec.upto flashPartsSpec)

end Rows
end Go.Proofs.Ytdblbilgnfomaaa
