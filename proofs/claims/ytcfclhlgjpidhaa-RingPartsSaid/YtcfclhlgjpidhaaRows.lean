/-
  No cell of these rows narrows 'for every input' (looked for: loops, veiled, ifaces, maps, wideKeys, modest, calm, conditions, laid).
  DERIVED. THE GIVEN ROWS OF THIS SEAT. 5 by the template 'for every input the law returns true; each argument reads behind the call as it read before'; 0 by the template 'total and deterministic' (their statements: YtcfclhlgjpidhaaTotals.lean).
  GIVEN WITH THE SEED: the statements are not yours to turn. If you find one false, say at which input.
  Laid BY PROGRAM, IN A SANDBOX (cutbox-rows.mjs): the forced cells as the released guide's own fill.sh prints them over the translation 9531b229c68679a5… (all of the seat's roots in one cut). By AI agents, Wed Nov 11 2026. No macro, syntax, notation, axiom, sorry.
-/
import Derived.Test.YtcfclhlgjpidhaaChecked
import GoSem.Claim
import GoSem.ClaimJoined
import GoSem.ClaimMapViews
import Derived.JoinedTies
import Derived.KernelRfl
namespace Go.Proofs.Ytcfclhlgjpidhaa
/- THE CELL 'sum', in the pinned program and in every row, IS THE sha256 OF THE DUMP (.gsa) THAT YtcfclhlgjpidhaaProg.lean LOADS. Nothing in Lean hashes anything: it is a label: what it is worth is what the hold of that sum in a sandbox is worth. -/
noncomputable def Try.pinned : Pinned := { name := "ytcfclhlgjpidhaa", sum := "9531b229c68679a59bb0659214c429539e389958ea5935b827b8782344aad253", checked := Try.checked }
namespace Rows
def none {H : Type} : Left H := { results := [], args := [] }

/-- 'tracerylaw02.RingLabels': WHATEVER THE INPUT: true; the input reads as it did. -/
def ringLabelsSpec : ChangeSpec := { name := "ringLabels", fn := fun _ => fun
  | [d] => { results := [.lit (.bool true)], args := [d] }
  | _ => none }
def ringLabelsRow : OpenClaim := { program := "ytcfclhlgjpidhaa", sum := "9531b229c68679a59bb0659214c429539e389958ea5935b827b8782344aad253", func := "tracery/tracerylaw02.RingLabels", spec := "ringLabels", apart := false }
def RingLabelsSaid : Prop := ringLabelsRow.holds Try.pinned (OpenSpec.ofChange ringLabelsSpec)

/-- ITS FALSE NEIGHBOUR: 'it returns false'. Refute it at one input. -/
def ringLabelsWrong : ChangeSpec := { name := "ringLabels", fn := fun _ => fun
  | [d] => { results := [.lit (.bool false)], args := [d] }
  | _ => none }
def RingLabelsWrongFalsely : Prop := ringLabelsRow.holds Try.pinned (OpenSpec.ofChange ringLabelsWrong)

/-- 'tracerylaw02.RingSteps': WHATEVER THE INPUT: true; the input reads as it did. -/
def ringStepsSpec : ChangeSpec := { name := "ringSteps", fn := fun _ => fun
  | [d1, d2] => { results := [.lit (.bool true)], args := [d1, d2] }
  | _ => none }
def ringStepsRow : OpenClaim := { program := "ytcfclhlgjpidhaa", sum := "9531b229c68679a59bb0659214c429539e389958ea5935b827b8782344aad253", func := "tracery/tracerylaw02.RingSteps", spec := "ringSteps", apart := false }
def RingStepsSaid : Prop := ringStepsRow.holds Try.pinned (OpenSpec.ofChange ringStepsSpec)

/-- ITS FALSE NEIGHBOUR: 'it returns false'. Refute it at one input. -/
def ringStepsWrong : ChangeSpec := { name := "ringSteps", fn := fun _ => fun
  | [d1, d2] => { results := [.lit (.bool false)], args := [d1, d2] }
  | _ => none }
def RingStepsWrongFalsely : Prop := ringStepsRow.holds Try.pinned (OpenSpec.ofChange ringStepsWrong)

/-- 'tracerylaw02.RingTurns': WHATEVER THE INPUT: true; the input reads as it did. -/
def ringTurnsSpec : ChangeSpec := { name := "ringTurns", fn := fun _ => fun
  | [d1, d2] => { results := [.lit (.bool true)], args := [d1, d2] }
  | _ => none }
def ringTurnsRow : OpenClaim := { program := "ytcfclhlgjpidhaa", sum := "9531b229c68679a59bb0659214c429539e389958ea5935b827b8782344aad253", func := "tracery/tracerylaw02.RingTurns", spec := "ringTurns", apart := false }
def RingTurnsSaid : Prop := ringTurnsRow.holds Try.pinned (OpenSpec.ofChange ringTurnsSpec)

/-- ITS FALSE NEIGHBOUR: 'it returns false'. Refute it at one input. -/
def ringTurnsWrong : ChangeSpec := { name := "ringTurns", fn := fun _ => fun
  | [d1, d2] => { results := [.lit (.bool false)], args := [d1, d2] }
  | _ => none }
def RingTurnsWrongFalsely : Prop := ringTurnsRow.holds Try.pinned (OpenSpec.ofChange ringTurnsWrong)

/-- 'tracerylaw02.RingParts': WHATEVER THE INPUT: true; the input reads as it did. -/
def ringPartsSpec : ChangeSpec := { name := "ringParts", fn := fun _ => fun
  | [d1, d2, d3] => { results := [.lit (.bool true)], args := [d1, d2, d3] }
  | _ => none }
def ringPartsRow : OpenClaim := { program := "ytcfclhlgjpidhaa", sum := "9531b229c68679a59bb0659214c429539e389958ea5935b827b8782344aad253", func := "tracery/tracerylaw02.RingParts", spec := "ringParts", unfollowed := true, recurses := true, apart := false }
def RingPartsSaid : Prop := ringPartsRow.holds Try.pinned (OpenSpec.ofChange ringPartsSpec)

/-- ITS FALSE NEIGHBOUR: 'it returns false'. Refute it at one input. -/
def ringPartsWrong : ChangeSpec := { name := "ringParts", fn := fun _ => fun
  | [d1, d2, d3] => { results := [.lit (.bool false)], args := [d1, d2, d3] }
  | _ => none }
def RingPartsWrongFalsely : Prop := ringPartsRow.holds Try.pinned (OpenSpec.ofChange ringPartsWrong)

/-- 'tracerylaw02.RingStays': WHATEVER THE INPUT: true; the input reads as it did. -/
def ringStaysSpec : ChangeSpec := { name := "ringStays", fn := fun _ => fun
  | [d1, d2] => { results := [.lit (.bool true)], args := [d1, d2] }
  | _ => none }
def ringStaysRow : OpenClaim := { program := "ytcfclhlgjpidhaa", sum := "9531b229c68679a59bb0659214c429539e389958ea5935b827b8782344aad253", func := "tracery/tracerylaw02.RingStays", spec := "ringStays", unfollowed := true, recurses := true, apart := false }
def RingStaysSaid : Prop := ringStaysRow.holds Try.pinned (OpenSpec.ofChange ringStaysSpec)

/-- ITS FALSE NEIGHBOUR: 'it returns false'. Refute it at one input. -/
def ringStaysWrong : ChangeSpec := { name := "ringStays", fn := fun _ => fun
  | [d1, d2] => { results := [.lit (.bool false)], args := [d1, d2] }
  | _ => none }
def RingStaysWrongFalsely : Prop := ringStaysRow.holds Try.pinned (OpenSpec.ofChange ringStaysWrong)

/- THE SECOND FORM. 'bulk': how many values and letters a reading holds, each counted each time it is reached (what is shared counts as often as it is met; a slice's spare places count too). A statement '..UptoSaid' is the law's where the arguments, and the package variables that the reading takes, are together of bulk at most 1048576: NARROWER than '..Said'. Prove '..Said' where nothing that the law and all that it calls make is longer than what came in: it says more and counts as full. Else prove '..UptoSaid'. A law counts once. -/
mutual
def uptoBulk {H : Type} : DataW H → Nat
  | .lit (.string bytes) => bytes.length + 1
  | .lit _ => 1
  | .nil => 1
  | .ptr d => uptoBulk d + 1
  | .slice elems spare => uptoBulkAll elems + uptoBulkAll spare + 1
  | .agg parts => uptoBulkAll parts + 1
  | .iface _ d => uptoBulk d + 1
  | .map entries => uptoBulkEntries entries + 1
  | .held _ => 1
def uptoBulkAll {H : Type} : List (DataW H) → Nat
  | [] => 0
  | d :: r => uptoBulk d + uptoBulkAll r
def uptoBulkEntries {H : Type} : List (Lit × DataW H) → Nat
  | [] => 0
  | x :: r => uptoBulkEntry x + uptoBulkEntries r
def uptoBulkEntry {H : Type} : Lit × DataW H → Nat
  | (.string bytes, d) => bytes.length + uptoBulk d + 1
  | (_, d) => uptoBulk d + 1
 end
def uptoSmall : (H : Type) → List (DataW H) → Bool := fun _ ds => decide (uptoBulkAll ds ≤ 1048576)
def OpenSpec.upto (s : _root_.Go.ChangeSpec) : _root_.Go.OpenSpec := { _root_.Go.OpenSpec.ofChange s with cond := some uptoSmall }

/-- 'tracerylaw02.RingLabels', WHERE WHAT IT READS IS OF BULK AT MOST 1048576: true; the input reads as it did. -/
def ringLabelsUptoRow : OpenClaim := { program := "ytcfclhlgjpidhaa", sum := "9531b229c68679a59bb0659214c429539e389958ea5935b827b8782344aad253", func := "tracery/tracerylaw02.RingLabels", spec := "ringLabels", apart := false, narrowed := true }
def RingLabelsUptoSaid : Prop := ringLabelsUptoRow.holds Try.pinned (OpenSpec.upto ringLabelsSpec)

/-- 'tracerylaw02.RingSteps', WHERE WHAT IT READS IS OF BULK AT MOST 1048576: true; the input reads as it did. -/
def ringStepsUptoRow : OpenClaim := { program := "ytcfclhlgjpidhaa", sum := "9531b229c68679a59bb0659214c429539e389958ea5935b827b8782344aad253", func := "tracery/tracerylaw02.RingSteps", spec := "ringSteps", apart := false, narrowed := true }
def RingStepsUptoSaid : Prop := ringStepsUptoRow.holds Try.pinned (OpenSpec.upto ringStepsSpec)

/-- 'tracerylaw02.RingTurns', WHERE WHAT IT READS IS OF BULK AT MOST 1048576: true; the input reads as it did. -/
def ringTurnsUptoRow : OpenClaim := { program := "ytcfclhlgjpidhaa", sum := "9531b229c68679a59bb0659214c429539e389958ea5935b827b8782344aad253", func := "tracery/tracerylaw02.RingTurns", spec := "ringTurns", apart := false, narrowed := true }
def RingTurnsUptoSaid : Prop := ringTurnsUptoRow.holds Try.pinned (OpenSpec.upto ringTurnsSpec)

/-- 'tracerylaw02.RingParts', WHERE WHAT IT READS IS OF BULK AT MOST 1048576: true; the input reads as it did. -/
def ringPartsUptoRow : OpenClaim := { program := "ytcfclhlgjpidhaa", sum := "9531b229c68679a59bb0659214c429539e389958ea5935b827b8782344aad253", func := "tracery/tracerylaw02.RingParts", spec := "ringParts", unfollowed := true, recurses := true, apart := false, narrowed := true }
def RingPartsUptoSaid : Prop := ringPartsUptoRow.holds Try.pinned (OpenSpec.upto ringPartsSpec)

/-- 'tracerylaw02.RingStays', WHERE WHAT IT READS IS OF BULK AT MOST 1048576: true; the input reads as it did. -/
def ringStaysUptoRow : OpenClaim := { program := "ytcfclhlgjpidhaa", sum := "9531b229c68679a59bb0659214c429539e389958ea5935b827b8782344aad253", func := "tracery/tracerylaw02.RingStays", spec := "ringStays", unfollowed := true, recurses := true, apart := false, narrowed := true }
def RingStaysUptoSaid : Prop := ringStaysUptoRow.holds Try.pinned (OpenSpec.upto ringStaysSpec)

end Rows
end Go.Proofs.Ytcfclhlgjpidhaa
