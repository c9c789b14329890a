/-
  No cell of these rows narrows 'for every input' (looked for: loops, veiled, ifaces, maps, wideKeys, modest, calm, conditions, laid).
  DERIVED. THE GIVEN ROWS OF THIS SEAT. 12 by the template 'for every input the law returns true; each argument reads behind the call as it read before'; 0 by the template 'total and deterministic' (their statements: YtkcakjckpbldoaaTotals.lean).
  GIVEN WITH THE SEED: the statements are not yours to turn. If you find one false, say at which input.
  Laid BY PROGRAM, IN A SANDBOX (cutbox-rows.mjs): the forced cells as the released guide's own fill.sh prints them over the translation 46207476d43bb04b… (all of the seat's roots in one cut). By AI agents, Wed Nov 11 2026. No macro, syntax, notation, axiom, sorry.
-/
import Derived.Test.YtkcakjckpbldoaaChecked
import GoSem.Claim
import GoSem.ClaimJoined
import GoSem.ClaimMapViews
import Derived.JoinedTies
import Derived.KernelRfl
namespace Go.Proofs.Ytkcakjckpbldoaa
/- THE CELL 'sum', in the pinned program and in every row, IS THE sha256 OF THE DUMP (.gsa) THAT YtkcakjckpbldoaaProg.lean LOADS. Nothing in Lean hashes anything: it is a label: what it is worth is what the hold of that sum in a sandbox is worth. -/
noncomputable def Try.pinned : Pinned := { name := "ytkcakjckpbldoaa", sum := "46207476d43bb04b0b3c9874a8e50aa7d6f84dfafd2eb16330d034fe5288f06a", checked := Try.checked }
namespace Rows
def none {H : Type} : Left H := { results := [], args := [] }

/-- 'pelotonlaw17.DrawOrders': WHATEVER THE INPUT: true; the input reads as it did. -/
def drawOrdersSpec : ChangeSpec := { name := "drawOrders", fn := fun _ => fun
  | [d1, d2, d3] => { results := [.lit (.bool true)], args := [d1, d2, d3] }
  | _ => none }
def drawOrdersRow : OpenClaim := { program := "ytkcakjckpbldoaa", sum := "46207476d43bb04b0b3c9874a8e50aa7d6f84dfafd2eb16330d034fe5288f06a", func := "peloton/pelotonlaw17.DrawOrders", spec := "drawOrders", apart := false }
def DrawOrdersSaid : Prop := drawOrdersRow.holds Try.pinned (OpenSpec.ofChange drawOrdersSpec)

/-- ITS FALSE NEIGHBOUR: 'it returns false'. Refute it at one input. -/
def drawOrdersWrong : ChangeSpec := { name := "drawOrders", fn := fun _ => fun
  | [d1, d2, d3] => { results := [.lit (.bool false)], args := [d1, d2, d3] }
  | _ => none }
def DrawOrdersWrongFalsely : Prop := drawOrdersRow.holds Try.pinned (OpenSpec.ofChange drawOrdersWrong)

/-- 'pelotonlaw17.DrawTurns': WHATEVER THE INPUT: true; the input reads as it did. -/
def drawTurnsSpec : ChangeSpec := { name := "drawTurns", fn := fun _ => fun
  | [d1, d2, d3] => { results := [.lit (.bool true)], args := [d1, d2, d3] }
  | _ => none }
def drawTurnsRow : OpenClaim := { program := "ytkcakjckpbldoaa", sum := "46207476d43bb04b0b3c9874a8e50aa7d6f84dfafd2eb16330d034fe5288f06a", func := "peloton/pelotonlaw17.DrawTurns", spec := "drawTurns", apart := false }
def DrawTurnsSaid : Prop := drawTurnsRow.holds Try.pinned (OpenSpec.ofChange drawTurnsSpec)

/-- ITS FALSE NEIGHBOUR: 'it returns false'. Refute it at one input. -/
def drawTurnsWrong : ChangeSpec := { name := "drawTurns", fn := fun _ => fun
  | [d1, d2, d3] => { results := [.lit (.bool false)], args := [d1, d2, d3] }
  | _ => none }
def DrawTurnsWrongFalsely : Prop := drawTurnsRow.holds Try.pinned (OpenSpec.ofChange drawTurnsWrong)

/-- 'pelotonlaw17.DrawQueue': WHATEVER THE INPUT: true; the input reads as it did. -/
def drawQueueSpec : ChangeSpec := { name := "drawQueue", fn := fun _ => fun
  | [d] => { results := [.lit (.bool true)], args := [d] }
  | _ => none }
def drawQueueRow : OpenClaim := { program := "ytkcakjckpbldoaa", sum := "46207476d43bb04b0b3c9874a8e50aa7d6f84dfafd2eb16330d034fe5288f06a", func := "peloton/pelotonlaw17.DrawQueue", spec := "drawQueue", apart := false }
def DrawQueueSaid : Prop := drawQueueRow.holds Try.pinned (OpenSpec.ofChange drawQueueSpec)

/-- ITS FALSE NEIGHBOUR: 'it returns false'. Refute it at one input. -/
def drawQueueWrong : ChangeSpec := { name := "drawQueue", fn := fun _ => fun
  | [d] => { results := [.lit (.bool false)], args := [d] }
  | _ => none }
def DrawQueueWrongFalsely : Prop := drawQueueRow.holds Try.pinned (OpenSpec.ofChange drawQueueWrong)

/-- 'pelotonlaw17.DrawFull': WHATEVER THE INPUT: true; the input reads as it did. -/
def drawFullSpec : ChangeSpec := { name := "drawFull", fn := fun _ => fun
  | [d1, d2] => { results := [.lit (.bool true)], args := [d1, d2] }
  | _ => none }
def drawFullRow : OpenClaim := { program := "ytkcakjckpbldoaa", sum := "46207476d43bb04b0b3c9874a8e50aa7d6f84dfafd2eb16330d034fe5288f06a", func := "peloton/pelotonlaw17.DrawFull", spec := "drawFull", apart := false }
def DrawFullSaid : Prop := drawFullRow.holds Try.pinned (OpenSpec.ofChange drawFullSpec)

/-- ITS FALSE NEIGHBOUR: 'it returns false'. Refute it at one input. -/
def drawFullWrong : ChangeSpec := { name := "drawFull", fn := fun _ => fun
  | [d1, d2] => { results := [.lit (.bool false)], args := [d1, d2] }
  | _ => none }
def DrawFullWrongFalsely : Prop := drawFullRow.holds Try.pinned (OpenSpec.ofChange drawFullWrong)

/-- 'pelotonlaw05.FramePlain': WHATEVER THE INPUT: true; the input reads as it did. -/
def framePlainSpec : ChangeSpec := { name := "framePlain", fn := fun _ => fun
  | [d1, d2] => { results := [.lit (.bool true)], args := [d1, d2] }
  | _ => none }
def framePlainRow : OpenClaim := { program := "ytkcakjckpbldoaa", sum := "46207476d43bb04b0b3c9874a8e50aa7d6f84dfafd2eb16330d034fe5288f06a", func := "peloton/pelotonlaw05.FramePlain", spec := "framePlain", unfollowed := true, recurses := true, apart := false }
def FramePlainSaid : Prop := framePlainRow.holds Try.pinned (OpenSpec.ofChange framePlainSpec)

/-- ITS FALSE NEIGHBOUR: 'it returns false'. Refute it at one input. -/
def framePlainWrong : ChangeSpec := { name := "framePlain", fn := fun _ => fun
  | [d1, d2] => { results := [.lit (.bool false)], args := [d1, d2] }
  | _ => none }
def FramePlainWrongFalsely : Prop := framePlainRow.holds Try.pinned (OpenSpec.ofChange framePlainWrong)

/-- 'pelotonlaw05.FrameRing': WHATEVER THE INPUT: true; the input reads as it did. -/
def frameRingSpec : ChangeSpec := { name := "frameRing", fn := fun _ => fun
  | [d1, d2, d3] => { results := [.lit (.bool true)], args := [d1, d2, d3] }
  | _ => none }
def frameRingRow : OpenClaim := { program := "ytkcakjckpbldoaa", sum := "46207476d43bb04b0b3c9874a8e50aa7d6f84dfafd2eb16330d034fe5288f06a", func := "peloton/pelotonlaw05.FrameRing", spec := "frameRing", unfollowed := true, recurses := true, apart := false }
def FrameRingSaid : Prop := frameRingRow.holds Try.pinned (OpenSpec.ofChange frameRingSpec)

/-- ITS FALSE NEIGHBOUR: 'it returns false'. Refute it at one input. -/
def frameRingWrong : ChangeSpec := { name := "frameRing", fn := fun _ => fun
  | [d1, d2, d3] => { results := [.lit (.bool false)], args := [d1, d2, d3] }
  | _ => none }
def FrameRingWrongFalsely : Prop := frameRingRow.holds Try.pinned (OpenSpec.ofChange frameRingWrong)

/-- 'pelotonlaw05.FrameLess': WHATEVER THE INPUT: true; the input reads as it did. -/
def frameLessSpec : ChangeSpec := { name := "frameLess", fn := fun _ => fun
  | [d1, d2, d3] => { results := [.lit (.bool true)], args := [d1, d2, d3] }
  | _ => none }
def frameLessRow : OpenClaim := { program := "ytkcakjckpbldoaa", sum := "46207476d43bb04b0b3c9874a8e50aa7d6f84dfafd2eb16330d034fe5288f06a", func := "peloton/pelotonlaw05.FrameLess", spec := "frameLess", unfollowed := true, recurses := true, apart := false }
def FrameLessSaid : Prop := frameLessRow.holds Try.pinned (OpenSpec.ofChange frameLessSpec)

/-- ITS FALSE NEIGHBOUR: 'it returns false'. Refute it at one input. -/
def frameLessWrong : ChangeSpec := { name := "frameLess", fn := fun _ => fun
  | [d1, d2, d3] => { results := [.lit (.bool false)], args := [d1, d2, d3] }
  | _ => none }
def FrameLessWrongFalsely : Prop := frameLessRow.holds Try.pinned (OpenSpec.ofChange frameLessWrong)

/-- 'pelotonlaw05.FramePasses': WHATEVER THE INPUT: true; the input reads as it did. -/
def framePassesSpec : ChangeSpec := { name := "framePasses", fn := fun _ => fun
  | [d1, d2, d3] => { results := [.lit (.bool true)], args := [d1, d2, d3] }
  | _ => none }
def framePassesRow : OpenClaim := { program := "ytkcakjckpbldoaa", sum := "46207476d43bb04b0b3c9874a8e50aa7d6f84dfafd2eb16330d034fe5288f06a", func := "peloton/pelotonlaw05.FramePasses", spec := "framePasses", unfollowed := true, recurses := true, apart := false }
def FramePassesSaid : Prop := framePassesRow.holds Try.pinned (OpenSpec.ofChange framePassesSpec)

/-- ITS FALSE NEIGHBOUR: 'it returns false'. Refute it at one input. -/
def framePassesWrong : ChangeSpec := { name := "framePasses", fn := fun _ => fun
  | [d1, d2, d3] => { results := [.lit (.bool false)], args := [d1, d2, d3] }
  | _ => none }
def FramePassesWrongFalsely : Prop := framePassesRow.holds Try.pinned (OpenSpec.ofChange framePassesWrong)

/-- 'pelotonlaw05.FrameBlind': WHATEVER THE INPUT: true; the input reads as it did. -/
def frameBlindSpec : ChangeSpec := { name := "frameBlind", fn := fun _ => fun
  | [d1, d2, d3] => { results := [.lit (.bool true)], args := [d1, d2, d3] }
  | _ => none }
def frameBlindRow : OpenClaim := { program := "ytkcakjckpbldoaa", sum := "46207476d43bb04b0b3c9874a8e50aa7d6f84dfafd2eb16330d034fe5288f06a", func := "peloton/pelotonlaw05.FrameBlind", spec := "frameBlind", unfollowed := true, recurses := true, apart := false }
def FrameBlindSaid : Prop := frameBlindRow.holds Try.pinned (OpenSpec.ofChange frameBlindSpec)

/-- ITS FALSE NEIGHBOUR: 'it returns false'. Refute it at one input. -/
def frameBlindWrong : ChangeSpec := { name := "frameBlind", fn := fun _ => fun
  | [d1, d2, d3] => { results := [.lit (.bool false)], args := [d1, d2, d3] }
  | _ => none }
def FrameBlindWrongFalsely : Prop := frameBlindRow.holds Try.pinned (OpenSpec.ofChange frameBlindWrong)

/-- 'pelotonlaw05.FrameJoins': WHATEVER THE INPUT: true; the input reads as it did. -/
def frameJoinsSpec : ChangeSpec := { name := "frameJoins", fn := fun _ => fun
  | [d1, d2] => { results := [.lit (.bool true)], args := [d1, d2] }
  | _ => none }
def frameJoinsRow : OpenClaim := { program := "ytkcakjckpbldoaa", sum := "46207476d43bb04b0b3c9874a8e50aa7d6f84dfafd2eb16330d034fe5288f06a", func := "peloton/pelotonlaw05.FrameJoins", spec := "frameJoins", unfollowed := true, recurses := true, apart := false }
def FrameJoinsSaid : Prop := frameJoinsRow.holds Try.pinned (OpenSpec.ofChange frameJoinsSpec)

/-- ITS FALSE NEIGHBOUR: 'it returns false'. Refute it at one input. -/
def frameJoinsWrong : ChangeSpec := { name := "frameJoins", fn := fun _ => fun
  | [d1, d2] => { results := [.lit (.bool false)], args := [d1, d2] }
  | _ => none }
def FrameJoinsWrongFalsely : Prop := frameJoinsRow.holds Try.pinned (OpenSpec.ofChange frameJoinsWrong)

/-- 'pelotonlaw05.FrameForks': WHATEVER THE INPUT: true; the input reads as it did. -/
def frameForksSpec : ChangeSpec := { name := "frameForks", fn := fun _ => fun
  | [d1, d2, d3] => { results := [.lit (.bool true)], args := [d1, d2, d3] }
  | _ => none }
def frameForksRow : OpenClaim := { program := "ytkcakjckpbldoaa", sum := "46207476d43bb04b0b3c9874a8e50aa7d6f84dfafd2eb16330d034fe5288f06a", func := "peloton/pelotonlaw05.FrameForks", spec := "frameForks", unfollowed := true, recurses := true, apart := false }
def FrameForksSaid : Prop := frameForksRow.holds Try.pinned (OpenSpec.ofChange frameForksSpec)

/-- ITS FALSE NEIGHBOUR: 'it returns false'. Refute it at one input. -/
def frameForksWrong : ChangeSpec := { name := "frameForks", fn := fun _ => fun
  | [d1, d2, d3] => { results := [.lit (.bool false)], args := [d1, d2, d3] }
  | _ => none }
def FrameForksWrongFalsely : Prop := frameForksRow.holds Try.pinned (OpenSpec.ofChange frameForksWrong)

/-- 'pelotonlaw05.FrameSteps': WHATEVER THE INPUT: true; the input reads as it did. -/
def frameStepsSpec : ChangeSpec := { name := "frameSteps", fn := fun _ => fun
  | [d1, d2] => { results := [.lit (.bool true)], args := [d1, d2] }
  | _ => none }
def frameStepsRow : OpenClaim := { program := "ytkcakjckpbldoaa", sum := "46207476d43bb04b0b3c9874a8e50aa7d6f84dfafd2eb16330d034fe5288f06a", func := "peloton/pelotonlaw05.FrameSteps", spec := "frameSteps", unfollowed := true, recurses := true, apart := false }
def FrameStepsSaid : Prop := frameStepsRow.holds Try.pinned (OpenSpec.ofChange frameStepsSpec)

/-- ITS FALSE NEIGHBOUR: 'it returns false'. Refute it at one input. -/
def frameStepsWrong : ChangeSpec := { name := "frameSteps", fn := fun _ => fun
  | [d1, d2] => { results := [.lit (.bool false)], args := [d1, d2] }
  | _ => none }
def FrameStepsWrongFalsely : Prop := frameStepsRow.holds Try.pinned (OpenSpec.ofChange frameStepsWrong)

/- THE SECOND FORM. 'bulk': how many values and letters a reading holds, each counted each time it is reached (what is shared counts as often as it is met; a slice's spare places count too). A statement '..UptoSaid' is the law's where the arguments, and the package variables that the reading takes, are together of bulk at most 1048576: NARROWER than '..Said'. Prove '..Said' where nothing that the law and all that it calls make is longer than what came in: it says more and counts as full. Else prove '..UptoSaid'. A law counts once. -/
mutual
def uptoBulk {H : Type} : DataW H → Nat
  | .lit (.string bytes) => bytes.length + 1
  | .lit _ => 1
  | .nil => 1
  | .ptr d => uptoBulk d + 1
  | .slice elems spare => uptoBulkAll elems + uptoBulkAll spare + 1
  | .agg parts => uptoBulkAll parts + 1
  | .iface _ d => uptoBulk d + 1
  | .map entries => uptoBulkEntries entries + 1
  | .held _ => 1
def uptoBulkAll {H : Type} : List (DataW H) → Nat
  | [] => 0
  | d :: r => uptoBulk d + uptoBulkAll r
def uptoBulkEntries {H : Type} : List (Lit × DataW H) → Nat
  | [] => 0
  | x :: r => uptoBulkEntry x + uptoBulkEntries r
def uptoBulkEntry {H : Type} : Lit × DataW H → Nat
  | (.string bytes, d) => bytes.length + uptoBulk d + 1
  | (_, d) => uptoBulk d + 1
 end
def uptoSmall : (H : Type) → List (DataW H) → Bool := fun _ ds => decide (uptoBulkAll ds ≤ 1048576)
def OpenSpec.upto (s : _root_.Go.ChangeSpec) : _root_.Go.OpenSpec := { _root_.Go.OpenSpec.ofChange s with cond := some uptoSmall }

/-- 'pelotonlaw17.DrawOrders', WHERE WHAT IT READS IS OF BULK AT MOST 1048576: true; the input reads as it did. -/
def drawOrdersUptoRow : OpenClaim := { program := "ytkcakjckpbldoaa", sum := "46207476d43bb04b0b3c9874a8e50aa7d6f84dfafd2eb16330d034fe5288f06a", func := "peloton/pelotonlaw17.DrawOrders", spec := "drawOrders", apart := false, narrowed := true }
def DrawOrdersUptoSaid : Prop := drawOrdersUptoRow.holds Try.pinned (OpenSpec.upto drawOrdersSpec)

/-- 'pelotonlaw17.DrawTurns', WHERE WHAT IT READS IS OF BULK AT MOST 1048576: true; the input reads as it did. -/
def drawTurnsUptoRow : OpenClaim := { program := "ytkcakjckpbldoaa", sum := "46207476d43bb04b0b3c9874a8e50aa7d6f84dfafd2eb16330d034fe5288f06a", func := "peloton/pelotonlaw17.DrawTurns", spec := "drawTurns", apart := false, narrowed := true }
def DrawTurnsUptoSaid : Prop := drawTurnsUptoRow.holds Try.pinned (OpenSpec.upto drawTurnsSpec)

/-- 'pelotonlaw17.DrawQueue', WHERE WHAT IT READS IS OF BULK AT MOST 1048576: true; the input reads as it did. -/
def drawQueueUptoRow : OpenClaim := { program := "ytkcakjckpbldoaa", sum := "46207476d43bb04b0b3c9874a8e50aa7d6f84dfafd2eb16330d034fe5288f06a", func := "peloton/pelotonlaw17.DrawQueue", spec := "drawQueue", apart := false, narrowed := true }
def DrawQueueUptoSaid : Prop := drawQueueUptoRow.holds Try.pinned (OpenSpec.upto drawQueueSpec)

/-- 'pelotonlaw17.DrawFull', WHERE WHAT IT READS IS OF BULK AT MOST 1048576: true; the input reads as it did. -/
def drawFullUptoRow : OpenClaim := { program := "ytkcakjckpbldoaa", sum := "46207476d43bb04b0b3c9874a8e50aa7d6f84dfafd2eb16330d034fe5288f06a", func := "peloton/pelotonlaw17.DrawFull", spec := "drawFull", apart := false, narrowed := true }
def DrawFullUptoSaid : Prop := drawFullUptoRow.holds Try.pinned (OpenSpec.upto drawFullSpec)

/-- 'pelotonlaw05.FramePlain', WHERE WHAT IT READS IS OF BULK AT MOST 1048576: true; the input reads as it did. -/
def framePlainUptoRow : OpenClaim := { program := "ytkcakjckpbldoaa", sum := "46207476d43bb04b0b3c9874a8e50aa7d6f84dfafd2eb16330d034fe5288f06a", func := "peloton/pelotonlaw05.FramePlain", spec := "framePlain", unfollowed := true, recurses := true, apart := false, narrowed := true }
def FramePlainUptoSaid : Prop := framePlainUptoRow.holds Try.pinned (OpenSpec.upto framePlainSpec)

/-- 'pelotonlaw05.FrameRing', WHERE WHAT IT READS IS OF BULK AT MOST 1048576: true; the input reads as it did. -/
def frameRingUptoRow : OpenClaim := { program := "ytkcakjckpbldoaa", sum := "46207476d43bb04b0b3c9874a8e50aa7d6f84dfafd2eb16330d034fe5288f06a", func := "peloton/pelotonlaw05.FrameRing", spec := "frameRing", unfollowed := true, recurses := true, apart := false, narrowed := true }
def FrameRingUptoSaid : Prop := frameRingUptoRow.holds Try.pinned (OpenSpec.upto frameRingSpec)

/-- 'pelotonlaw05.FrameLess', WHERE WHAT IT READS IS OF BULK AT MOST 1048576: true; the input reads as it did. -/
def frameLessUptoRow : OpenClaim := { program := "ytkcakjckpbldoaa", sum := "46207476d43bb04b0b3c9874a8e50aa7d6f84dfafd2eb16330d034fe5288f06a", func := "peloton/pelotonlaw05.FrameLess", spec := "frameLess", unfollowed := true, recurses := true, apart := false, narrowed := true }
def FrameLessUptoSaid : Prop := frameLessUptoRow.holds Try.pinned (OpenSpec.upto frameLessSpec)

/-- 'pelotonlaw05.FramePasses', WHERE WHAT IT READS IS OF BULK AT MOST 1048576: true; the input reads as it did. -/
def framePassesUptoRow : OpenClaim := { program := "ytkcakjckpbldoaa", sum := "46207476d43bb04b0b3c9874a8e50aa7d6f84dfafd2eb16330d034fe5288f06a", func := "peloton/pelotonlaw05.FramePasses", spec := "framePasses", unfollowed := true, recurses := true, apart := false, narrowed := true }
def FramePassesUptoSaid : Prop := framePassesUptoRow.holds Try.pinned (OpenSpec.upto framePassesSpec)

/-- 'pelotonlaw05.FrameBlind', WHERE WHAT IT READS IS OF BULK AT MOST 1048576: true; the input reads as it did. -/
def frameBlindUptoRow : OpenClaim := { program := "ytkcakjckpbldoaa", sum := "46207476d43bb04b0b3c9874a8e50aa7d6f84dfafd2eb16330d034fe5288f06a", func := "peloton/pelotonlaw05.FrameBlind", spec := "frameBlind", unfollowed := true, recurses := true, apart := false, narrowed := true }
def FrameBlindUptoSaid : Prop := frameBlindUptoRow.holds Try.pinned (OpenSpec.upto frameBlindSpec)

/-- 'pelotonlaw05.FrameJoins', WHERE WHAT IT READS IS OF BULK AT MOST 1048576: true; the input reads as it did. -/
def frameJoinsUptoRow : OpenClaim := { program := "ytkcakjckpbldoaa", sum := "46207476d43bb04b0b3c9874a8e50aa7d6f84dfafd2eb16330d034fe5288f06a", func := "peloton/pelotonlaw05.FrameJoins", spec := "frameJoins", unfollowed := true, recurses := true, apart := false, narrowed := true }
def FrameJoinsUptoSaid : Prop := frameJoinsUptoRow.holds Try.pinned (OpenSpec.upto frameJoinsSpec)

/-- 'pelotonlaw05.FrameForks', WHERE WHAT IT READS IS OF BULK AT MOST 1048576: true; the input reads as it did. -/
def frameForksUptoRow : OpenClaim := { program := "ytkcakjckpbldoaa", sum := "46207476d43bb04b0b3c9874a8e50aa7d6f84dfafd2eb16330d034fe5288f06a", func := "peloton/pelotonlaw05.FrameForks", spec := "frameForks", unfollowed := true, recurses := true, apart := false, narrowed := true }
def FrameForksUptoSaid : Prop := frameForksUptoRow.holds Try.pinned (OpenSpec.upto frameForksSpec)

/-- 'pelotonlaw05.FrameSteps', WHERE WHAT IT READS IS OF BULK AT MOST 1048576: true; the input reads as it did. -/
def frameStepsUptoRow : OpenClaim := { program := "ytkcakjckpbldoaa", sum := "46207476d43bb04b0b3c9874a8e50aa7d6f84dfafd2eb16330d034fe5288f06a", func := "peloton/pelotonlaw05.FrameSteps", spec := "frameSteps", unfollowed := true, recurses := true, apart := false, narrowed := true }
def FrameStepsUptoSaid : Prop := frameStepsUptoRow.holds Try.pinned (OpenSpec.upto frameStepsSpec)

end Rows
end Go.Proofs.Ytkcakjckpbldoaa
