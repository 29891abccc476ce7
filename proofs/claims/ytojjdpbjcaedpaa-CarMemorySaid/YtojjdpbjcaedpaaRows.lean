/-
  No cell of these rows narrows 'for every input' (looked for: loops, veiled, ifaces, maps, wideKeys, modest, calm, conditions, laid).
  DERIVED. THE GIVEN ROWS OF THIS SEAT. 7 by the template 'for every input the law returns true; each argument reads behind the call as it read before'; 0 by the template 'total and deterministic' (their statements: YtojjdpbjcaedpaaTotals.lean).
  GIVEN WITH THE SEED: the statements are not yours to turn. If you find one false, say at which input.
  Laid BY PROGRAM, IN A SANDBOX (cutbox-rows.mjs): the forced cells as the released guide's own fill.sh prints them over the translation e0da5d018885700a… (all of the seat's roots in one cut). By AI agents, Wed Nov 11 2026. No macro, syntax, notation, axiom, sorry.
-/
import Derived.Test.YtojjdpbjcaedpaaChecked
import GoSem.Claim
import GoSem.ClaimJoined
import GoSem.ClaimMapViews
import Derived.JoinedTies
import Derived.KernelRfl
namespace Go.Proofs.Ytojjdpbjcaedpaa
/- THE CELL 'sum', in the pinned program and in every row, IS THE sha256 OF THE DUMP (.gsa) THAT YtojjdpbjcaedpaaProg.lean LOADS. Nothing in Lean hashes anything: it is a label: what it is worth is what the hold of that sum in a sandbox is worth. -/
noncomputable def Try.pinned : Pinned := { name := "ytojjdpbjcaedpaa", sum := "e0da5d018885700ac6409a33ff08e045c5caac038389a312c2b481775408cab6", checked := Try.checked }
namespace Rows
def none {H : Type} : Left H := { results := [], args := [] }

/-- 'chargeparklaw13.CarMatchesReference': WHATEVER THE INPUT: true; the input reads as it did. -/
def carMatchesReferenceSpec : ChangeSpec := { name := "carMatchesReference", fn := fun _ => fun
  | [d1, d2, d3, d4] => { results := [.lit (.bool true)], args := [d1, d2, d3, d4] }
  | _ => none }
def carMatchesReferenceRow : OpenClaim := { program := "ytojjdpbjcaedpaa", sum := "e0da5d018885700ac6409a33ff08e045c5caac038389a312c2b481775408cab6", func := "chargepark/chargeparklaw13.CarMatchesReference", spec := "carMatchesReference", unfollowed := true, recurses := true, apart := false }
def CarMatchesReferenceSaid : Prop := carMatchesReferenceRow.holds Try.pinned (OpenSpec.ofChange carMatchesReferenceSpec)

/-- ITS FALSE NEIGHBOUR: 'it returns false'. Refute it at one input. -/
def carMatchesReferenceWrong : ChangeSpec := { name := "carMatchesReference", fn := fun _ => fun
  | [d1, d2, d3, d4] => { results := [.lit (.bool false)], args := [d1, d2, d3, d4] }
  | _ => none }
def CarMatchesReferenceWrongFalsely : Prop := carMatchesReferenceRow.holds Try.pinned (OpenSpec.ofChange carMatchesReferenceWrong)

/-- 'chargeparklaw13.CarObeys': WHATEVER THE INPUT: true; the input reads as it did. -/
def carObeysSpec : ChangeSpec := { name := "carObeys", fn := fun _ => fun
  | [d1, d2, d3, d4] => { results := [.lit (.bool true)], args := [d1, d2, d3, d4] }
  | _ => none }
def carObeysRow : OpenClaim := { program := "ytojjdpbjcaedpaa", sum := "e0da5d018885700ac6409a33ff08e045c5caac038389a312c2b481775408cab6", func := "chargepark/chargeparklaw13.CarObeys", spec := "carObeys", unfollowed := true, recurses := true, apart := false }
def CarObeysSaid : Prop := carObeysRow.holds Try.pinned (OpenSpec.ofChange carObeysSpec)

/-- ITS FALSE NEIGHBOUR: 'it returns false'. Refute it at one input. -/
def carObeysWrong : ChangeSpec := { name := "carObeys", fn := fun _ => fun
  | [d1, d2, d3, d4] => { results := [.lit (.bool false)], args := [d1, d2, d3, d4] }
  | _ => none }
def CarObeysWrongFalsely : Prop := carObeysRow.holds Try.pinned (OpenSpec.ofChange carObeysWrong)

/-- 'chargeparklaw13.CarNeeds': WHATEVER THE INPUT: true; the input reads as it did. -/
def carNeedsSpec : ChangeSpec := { name := "carNeeds", fn := fun _ => fun
  | [d1, d2, d3] => { results := [.lit (.bool true)], args := [d1, d2, d3] }
  | _ => none }
def carNeedsRow : OpenClaim := { program := "ytojjdpbjcaedpaa", sum := "e0da5d018885700ac6409a33ff08e045c5caac038389a312c2b481775408cab6", func := "chargepark/chargeparklaw13.CarNeeds", spec := "carNeeds", unfollowed := true, recurses := true, apart := false }
def CarNeedsSaid : Prop := carNeedsRow.holds Try.pinned (OpenSpec.ofChange carNeedsSpec)

/-- ITS FALSE NEIGHBOUR: 'it returns false'. Refute it at one input. -/
def carNeedsWrong : ChangeSpec := { name := "carNeeds", fn := fun _ => fun
  | [d1, d2, d3] => { results := [.lit (.bool false)], args := [d1, d2, d3] }
  | _ => none }
def CarNeedsWrongFalsely : Prop := carNeedsRow.holds Try.pinned (OpenSpec.ofChange carNeedsWrong)

/-- 'chargeparklaw13.CarFills': WHATEVER THE INPUT: true; the input reads as it did. -/
def carFillsSpec : ChangeSpec := { name := "carFills", fn := fun _ => fun
  | [d1, d2, d3] => { results := [.lit (.bool true)], args := [d1, d2, d3] }
  | _ => none }
def carFillsRow : OpenClaim := { program := "ytojjdpbjcaedpaa", sum := "e0da5d018885700ac6409a33ff08e045c5caac038389a312c2b481775408cab6", func := "chargepark/chargeparklaw13.CarFills", spec := "carFills", unfollowed := true, recurses := true, apart := false }
def CarFillsSaid : Prop := carFillsRow.holds Try.pinned (OpenSpec.ofChange carFillsSpec)

/-- ITS FALSE NEIGHBOUR: 'it returns false'. Refute it at one input. -/
def carFillsWrong : ChangeSpec := { name := "carFills", fn := fun _ => fun
  | [d1, d2, d3] => { results := [.lit (.bool false)], args := [d1, d2, d3] }
  | _ => none }
def CarFillsWrongFalsely : Prop := carFillsRow.holds Try.pinned (OpenSpec.ofChange carFillsWrong)

/-- 'chargeparklaw13.CarLate': WHATEVER THE INPUT: true; the input reads as it did. -/
def carLateSpec : ChangeSpec := { name := "carLate", fn := fun _ => fun
  | [d1, d2, d3] => { results := [.lit (.bool true)], args := [d1, d2, d3] }
  | _ => none }
def carLateRow : OpenClaim := { program := "ytojjdpbjcaedpaa", sum := "e0da5d018885700ac6409a33ff08e045c5caac038389a312c2b481775408cab6", func := "chargepark/chargeparklaw13.CarLate", spec := "carLate", unfollowed := true, recurses := true, apart := false }
def CarLateSaid : Prop := carLateRow.holds Try.pinned (OpenSpec.ofChange carLateSpec)

/-- ITS FALSE NEIGHBOUR: 'it returns false'. Refute it at one input. -/
def carLateWrong : ChangeSpec := { name := "carLate", fn := fun _ => fun
  | [d1, d2, d3] => { results := [.lit (.bool false)], args := [d1, d2, d3] }
  | _ => none }
def CarLateWrongFalsely : Prop := carLateRow.holds Try.pinned (OpenSpec.ofChange carLateWrong)

/-- 'chargeparklaw13.CarKinds': WHATEVER THE INPUT: true; the input reads as it did. -/
def carKindsSpec : ChangeSpec := { name := "carKinds", fn := fun _ => fun
  | [d1, d2, d3, d4] => { results := [.lit (.bool true)], args := [d1, d2, d3, d4] }
  | _ => none }
def carKindsRow : OpenClaim := { program := "ytojjdpbjcaedpaa", sum := "e0da5d018885700ac6409a33ff08e045c5caac038389a312c2b481775408cab6", func := "chargepark/chargeparklaw13.CarKinds", spec := "carKinds", unfollowed := true, recurses := true, apart := false }
def CarKindsSaid : Prop := carKindsRow.holds Try.pinned (OpenSpec.ofChange carKindsSpec)

/-- ITS FALSE NEIGHBOUR: 'it returns false'. Refute it at one input. -/
def carKindsWrong : ChangeSpec := { name := "carKinds", fn := fun _ => fun
  | [d1, d2, d3, d4] => { results := [.lit (.bool false)], args := [d1, d2, d3, d4] }
  | _ => none }
def CarKindsWrongFalsely : Prop := carKindsRow.holds Try.pinned (OpenSpec.ofChange carKindsWrong)

/-- 'chargeparklaw13.CarMemory': WHATEVER THE INPUT: true; the input reads as it did. -/
def carMemorySpec : ChangeSpec := { name := "carMemory", fn := fun _ => fun
  | [d1, d2, d3, d4] => { results := [.lit (.bool true)], args := [d1, d2, d3, d4] }
  | _ => none }
def carMemoryRow : OpenClaim := { program := "ytojjdpbjcaedpaa", sum := "e0da5d018885700ac6409a33ff08e045c5caac038389a312c2b481775408cab6", func := "chargepark/chargeparklaw13.CarMemory", spec := "carMemory", unfollowed := true, recurses := true, apart := false }
def CarMemorySaid : Prop := carMemoryRow.holds Try.pinned (OpenSpec.ofChange carMemorySpec)

/-- ITS FALSE NEIGHBOUR: 'it returns false'. Refute it at one input. -/
def carMemoryWrong : ChangeSpec := { name := "carMemory", fn := fun _ => fun
  | [d1, d2, d3, d4] => { results := [.lit (.bool false)], args := [d1, d2, d3, d4] }
  | _ => none }
def CarMemoryWrongFalsely : Prop := carMemoryRow.holds Try.pinned (OpenSpec.ofChange carMemoryWrong)

/- THE SECOND FORM. 'bulk': how many values and letters a reading holds, each counted each time it is reached (what is shared counts as often as it is met; a slice's spare places count too). A statement '..UptoSaid' is the law's where the arguments, and the package variables that the reading takes, are together of bulk at most 1048576: NARROWER than '..Said'. Prove '..Said' where nothing that the law and all that it calls make is longer than what came in: it says more and counts as full. Else prove '..UptoSaid'. A law counts once. -/
mutual
def uptoBulk {H : Type} : DataW H → Nat
  | .lit (.string bytes) => bytes.length + 1
  | .lit _ => 1
  | .nil => 1
  | .ptr d => uptoBulk d + 1
  | .slice elems spare => uptoBulkAll elems + uptoBulkAll spare + 1
  | .agg parts => uptoBulkAll parts + 1
  | .iface _ d => uptoBulk d + 1
  | .map entries => uptoBulkEntries entries + 1
  | .held _ => 1
def uptoBulkAll {H : Type} : List (DataW H) → Nat
  | [] => 0
  | d :: r => uptoBulk d + uptoBulkAll r
def uptoBulkEntries {H : Type} : List (Lit × DataW H) → Nat
  | [] => 0
  | x :: r => uptoBulkEntry x + uptoBulkEntries r
def uptoBulkEntry {H : Type} : Lit × DataW H → Nat
  | (.string bytes, d) => bytes.length + uptoBulk d + 1
  | (_, d) => uptoBulk d + 1
 end
def uptoSmall : (H : Type) → List (DataW H) → Bool := fun _ ds => decide (uptoBulkAll ds ≤ 1048576)
def OpenSpec.upto (s : _root_.Go.ChangeSpec) : _root_.Go.OpenSpec := { _root_.Go.OpenSpec.ofChange s with cond := some uptoSmall }

/-- 'chargeparklaw13.CarMatchesReference', WHERE WHAT IT READS IS OF BULK AT MOST 1048576: true; the input reads as it did. -/
def carMatchesReferenceUptoRow : OpenClaim := { program := "ytojjdpbjcaedpaa", sum := "e0da5d018885700ac6409a33ff08e045c5caac038389a312c2b481775408cab6", func := "chargepark/chargeparklaw13.CarMatchesReference", spec := "carMatchesReference", unfollowed := true, recurses := true, apart := false, narrowed := true }
def CarMatchesReferenceUptoSaid : Prop := carMatchesReferenceUptoRow.holds Try.pinned (OpenSpec.upto carMatchesReferenceSpec)

/-- 'chargeparklaw13.CarObeys', WHERE WHAT IT READS IS OF BULK AT MOST 1048576: true; the input reads as it did. -/
def carObeysUptoRow : OpenClaim := { program := "ytojjdpbjcaedpaa", sum := "e0da5d018885700ac6409a33ff08e045c5caac038389a312c2b481775408cab6", func := "chargepark/chargeparklaw13.CarObeys", spec := "carObeys", unfollowed := true, recurses := true, apart := false, narrowed := true }
def CarObeysUptoSaid : Prop := carObeysUptoRow.holds Try.pinned (OpenSpec.upto carObeysSpec)

/-- 'chargeparklaw13.CarNeeds', WHERE WHAT IT READS IS OF BULK AT MOST 1048576: true; the input reads as it did. -/
def carNeedsUptoRow : OpenClaim := { program := "ytojjdpbjcaedpaa", sum := "e0da5d018885700ac6409a33ff08e045c5caac038389a312c2b481775408cab6", func := "chargepark/chargeparklaw13.CarNeeds", spec := "carNeeds", unfollowed := true, recurses := true, apart := false, narrowed := true }
def CarNeedsUptoSaid : Prop := carNeedsUptoRow.holds Try.pinned (OpenSpec.upto carNeedsSpec)

/-- 'chargeparklaw13.CarFills', WHERE WHAT IT READS IS OF BULK AT MOST 1048576: true; the input reads as it did. -/
def carFillsUptoRow : OpenClaim := { program := "ytojjdpbjcaedpaa", sum := "e0da5d018885700ac6409a33ff08e045c5caac038389a312c2b481775408cab6", func := "chargepark/chargeparklaw13.CarFills", spec := "carFills", unfollowed := true, recurses := true, apart := false, narrowed := true }
def CarFillsUptoSaid : Prop := carFillsUptoRow.holds Try.pinned (OpenSpec.upto carFillsSpec)

/-- 'chargeparklaw13.CarLate', WHERE WHAT IT READS IS OF BULK AT MOST 1048576: true; the input reads as it did. -/
def carLateUptoRow : OpenClaim := { program := "ytojjdpbjcaedpaa", sum := "e0da5d018885700ac6409a33ff08e045c5caac038389a312c2b481775408cab6", func := "chargepark/chargeparklaw13.CarLate", spec := "carLate", unfollowed := true, recurses := true, apart := false, narrowed := true }
def CarLateUptoSaid : Prop := carLateUptoRow.holds Try.pinned (OpenSpec.upto carLateSpec)

/-- 'chargeparklaw13.CarKinds', WHERE WHAT IT READS IS OF BULK AT MOST 1048576: true; the input reads as it did. -/
def carKindsUptoRow : OpenClaim := { program := "ytojjdpbjcaedpaa", sum := "e0da5d018885700ac6409a33ff08e045c5caac038389a312c2b481775408cab6", func := "chargepark/chargeparklaw13.CarKinds", spec := "carKinds", unfollowed := true, recurses := true, apart := false, narrowed := true }
def CarKindsUptoSaid : Prop := carKindsUptoRow.holds Try.pinned (OpenSpec.upto carKindsSpec)

/-- 'chargeparklaw13.CarMemory', WHERE WHAT IT READS IS OF BULK AT MOST 1048576: true; the input reads as it did. -/
def carMemoryUptoRow : OpenClaim := { program := "ytojjdpbjcaedpaa", sum := "e0da5d018885700ac6409a33ff08e045c5caac038389a312c2b481775408cab6", func := "chargepark/chargeparklaw13.CarMemory", spec := "carMemory", unfollowed := true, recurses := true, apart := false, narrowed := true }
def CarMemoryUptoSaid : Prop := carMemoryUptoRow.holds Try.pinned (OpenSpec.upto carMemorySpec)

end Rows
end Go.Proofs.Ytojjdpbjcaedpaa
