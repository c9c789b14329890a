/-
  No cell of these rows narrows 'for every input' (looked for: loops, veiled, ifaces, maps, wideKeys, modest, calm, conditions, laid).
  DERIVED. THE GIVEN ROWS OF THIS SEAT. 7 by the template 'for every input the law returns true; each argument reads behind the call as it read before'; 0 by the template 'total and deterministic' (their statements: YtinieegaaimilaaTotals.lean).
  GIVEN WITH THE SEED: the statements are not yours to turn. If you find one false, say at which input.
  Laid BY PROGRAM, IN A SANDBOX (cutbox-rows.mjs): the forced cells as the released guide's own fill.sh prints them over the translation db0b4a9d258f141a… (all of the seat's roots in one cut). By AI agents, Wed Nov 11 2026. No macro, syntax, notation, axiom, sorry.
-/
import Derived.Test.YtinieegaaimilaaChecked
import GoSem.Claim
import GoSem.ClaimJoined
import GoSem.ClaimMapViews
import Derived.JoinedTies
import Derived.KernelRfl
namespace Go.Proofs.Ytinieegaaimilaa
/- THE CELL 'sum', in the pinned program and in every row, IS THE sha256 OF THE DUMP (.gsa) THAT YtinieegaaimilaaProg.lean LOADS. Nothing in Lean hashes anything: it is a label: what it is worth is what the hold of that sum in a sandbox is worth. -/
noncomputable def Try.pinned : Pinned := { name := "ytinieegaaimilaa", sum := "db0b4a9d258f141a94f669689c5ff6167cc6db2d840e148a126a528914e7c63f", checked := Try.checked }
namespace Rows
def none {H : Type} : Left H := { results := [], args := [] }

/-- 'pelotonlaw04.CheckDepths': WHATEVER THE INPUT: true; the input reads as it did. -/
def checkDepthsSpec : ChangeSpec := { name := "checkDepths", fn := fun _ => fun
  | [d] => { results := [.lit (.bool true)], args := [d] }
  | _ => none }
def checkDepthsRow : OpenClaim := { program := "ytinieegaaimilaa", sum := "db0b4a9d258f141a94f669689c5ff6167cc6db2d840e148a126a528914e7c63f", func := "peloton/pelotonlaw04.CheckDepths", spec := "checkDepths", unfollowed := true, recurses := true, apart := false }
def CheckDepthsSaid : Prop := checkDepthsRow.holds Try.pinned (OpenSpec.ofChange checkDepthsSpec)

/-- ITS FALSE NEIGHBOUR: 'it returns false'. Refute it at one input. -/
def checkDepthsWrong : ChangeSpec := { name := "checkDepths", fn := fun _ => fun
  | [d] => { results := [.lit (.bool false)], args := [d] }
  | _ => none }
def CheckDepthsWrongFalsely : Prop := checkDepthsRow.holds Try.pinned (OpenSpec.ofChange checkDepthsWrong)

/-- 'pelotonlaw04.CheckHeld': WHATEVER THE INPUT: true; the input reads as it did. -/
def checkHeldSpec : ChangeSpec := { name := "checkHeld", fn := fun _ => fun
  | [d] => { results := [.lit (.bool true)], args := [d] }
  | _ => none }
def checkHeldRow : OpenClaim := { program := "ytinieegaaimilaa", sum := "db0b4a9d258f141a94f669689c5ff6167cc6db2d840e148a126a528914e7c63f", func := "peloton/pelotonlaw04.CheckHeld", spec := "checkHeld", unfollowed := true, recurses := true, apart := false }
def CheckHeldSaid : Prop := checkHeldRow.holds Try.pinned (OpenSpec.ofChange checkHeldSpec)

/-- ITS FALSE NEIGHBOUR: 'it returns false'. Refute it at one input. -/
def checkHeldWrong : ChangeSpec := { name := "checkHeld", fn := fun _ => fun
  | [d] => { results := [.lit (.bool false)], args := [d] }
  | _ => none }
def CheckHeldWrongFalsely : Prop := checkHeldRow.holds Try.pinned (OpenSpec.ofChange checkHeldWrong)

/-- 'pelotonlaw04.CheckNeeds': WHATEVER THE INPUT: true; the input reads as it did. -/
def checkNeedsSpec : ChangeSpec := { name := "checkNeeds", fn := fun _ => fun
  | [d1, d2] => { results := [.lit (.bool true)], args := [d1, d2] }
  | _ => none }
def checkNeedsRow : OpenClaim := { program := "ytinieegaaimilaa", sum := "db0b4a9d258f141a94f669689c5ff6167cc6db2d840e148a126a528914e7c63f", func := "peloton/pelotonlaw04.CheckNeeds", spec := "checkNeeds", unfollowed := true, recurses := true, apart := false }
def CheckNeedsSaid : Prop := checkNeedsRow.holds Try.pinned (OpenSpec.ofChange checkNeedsSpec)

/-- ITS FALSE NEIGHBOUR: 'it returns false'. Refute it at one input. -/
def checkNeedsWrong : ChangeSpec := { name := "checkNeeds", fn := fun _ => fun
  | [d1, d2] => { results := [.lit (.bool false)], args := [d1, d2] }
  | _ => none }
def CheckNeedsWrongFalsely : Prop := checkNeedsRow.holds Try.pinned (OpenSpec.ofChange checkNeedsWrong)

/-- 'pelotonlaw04.CheckDead': WHATEVER THE INPUT: true; the input reads as it did. -/
def checkDeadSpec : ChangeSpec := { name := "checkDead", fn := fun _ => fun
  | [d1, d2] => { results := [.lit (.bool true)], args := [d1, d2] }
  | _ => none }
def checkDeadRow : OpenClaim := { program := "ytinieegaaimilaa", sum := "db0b4a9d258f141a94f669689c5ff6167cc6db2d840e148a126a528914e7c63f", func := "peloton/pelotonlaw04.CheckDead", spec := "checkDead", unfollowed := true, recurses := true, apart := false }
def CheckDeadSaid : Prop := checkDeadRow.holds Try.pinned (OpenSpec.ofChange checkDeadSpec)

/-- ITS FALSE NEIGHBOUR: 'it returns false'. Refute it at one input. -/
def checkDeadWrong : ChangeSpec := { name := "checkDead", fn := fun _ => fun
  | [d1, d2] => { results := [.lit (.bool false)], args := [d1, d2] }
  | _ => none }
def CheckDeadWrongFalsely : Prop := checkDeadRow.holds Try.pinned (OpenSpec.ofChange checkDeadWrong)

/-- 'pelotonlaw04.CheckHolds': WHATEVER THE INPUT: true; the input reads as it did. -/
def checkHoldsSpec : ChangeSpec := { name := "checkHolds", fn := fun _ => fun
  | [d1, d2, d3] => { results := [.lit (.bool true)], args := [d1, d2, d3] }
  | _ => none }
def checkHoldsRow : OpenClaim := { program := "ytinieegaaimilaa", sum := "db0b4a9d258f141a94f669689c5ff6167cc6db2d840e148a126a528914e7c63f", func := "peloton/pelotonlaw04.CheckHolds", spec := "checkHolds", unfollowed := true, recurses := true, apart := false }
def CheckHoldsSaid : Prop := checkHoldsRow.holds Try.pinned (OpenSpec.ofChange checkHoldsSpec)

/-- ITS FALSE NEIGHBOUR: 'it returns false'. Refute it at one input. -/
def checkHoldsWrong : ChangeSpec := { name := "checkHolds", fn := fun _ => fun
  | [d1, d2, d3] => { results := [.lit (.bool false)], args := [d1, d2, d3] }
  | _ => none }
def CheckHoldsWrongFalsely : Prop := checkHoldsRow.holds Try.pinned (OpenSpec.ofChange checkHoldsWrong)

/-- 'pelotonlaw04.CheckPrograms': WHATEVER THE INPUT: true; the input reads as it did. -/
def checkProgramsSpec : ChangeSpec := { name := "checkPrograms", fn := fun _ => fun
  | [d] => { results := [.lit (.bool true)], args := [d] }
  | _ => none }
def checkProgramsRow : OpenClaim := { program := "ytinieegaaimilaa", sum := "db0b4a9d258f141a94f669689c5ff6167cc6db2d840e148a126a528914e7c63f", func := "peloton/pelotonlaw04.CheckPrograms", spec := "checkPrograms", unfollowed := true, recurses := true, apart := false }
def CheckProgramsSaid : Prop := checkProgramsRow.holds Try.pinned (OpenSpec.ofChange checkProgramsSpec)

/-- ITS FALSE NEIGHBOUR: 'it returns false'. Refute it at one input. -/
def checkProgramsWrong : ChangeSpec := { name := "checkPrograms", fn := fun _ => fun
  | [d] => { results := [.lit (.bool false)], args := [d] }
  | _ => none }
def CheckProgramsWrongFalsely : Prop := checkProgramsRow.holds Try.pinned (OpenSpec.ofChange checkProgramsWrong)

/-- 'pelotonlaw04.CheckMoves': WHATEVER THE INPUT: true; the input reads as it did. -/
def checkMovesSpec : ChangeSpec := { name := "checkMoves", fn := fun _ => fun
  | [d1, d2] => { results := [.lit (.bool true)], args := [d1, d2] }
  | _ => none }
def checkMovesRow : OpenClaim := { program := "ytinieegaaimilaa", sum := "db0b4a9d258f141a94f669689c5ff6167cc6db2d840e148a126a528914e7c63f", func := "peloton/pelotonlaw04.CheckMoves", spec := "checkMoves", unfollowed := true, recurses := true, apart := false }
def CheckMovesSaid : Prop := checkMovesRow.holds Try.pinned (OpenSpec.ofChange checkMovesSpec)

/-- ITS FALSE NEIGHBOUR: 'it returns false'. Refute it at one input. -/
def checkMovesWrong : ChangeSpec := { name := "checkMoves", fn := fun _ => fun
  | [d1, d2] => { results := [.lit (.bool false)], args := [d1, d2] }
  | _ => none }
def CheckMovesWrongFalsely : Prop := checkMovesRow.holds Try.pinned (OpenSpec.ofChange checkMovesWrong)

/- THE SECOND FORM. 'bulk': how many values and letters a reading holds, each counted each time it is reached (what is shared counts as often as it is met; a slice's spare places count too). A statement '..UptoSaid' is the law's where the arguments, and the package variables that the reading takes, are together of bulk at most 1048576: NARROWER than '..Said'. Prove '..Said' where nothing that the law and all that it calls make is longer than what came in: it says more and counts as full. Else prove '..UptoSaid'. A law counts once. -/
mutual
def uptoBulk {H : Type} : DataW H → Nat
  | .lit (.string bytes) => bytes.length + 1
  | .lit _ => 1
  | .nil => 1
  | .ptr d => uptoBulk d + 1
  | .slice elems spare => uptoBulkAll elems + uptoBulkAll spare + 1
  | .agg parts => uptoBulkAll parts + 1
  | .iface _ d => uptoBulk d + 1
  | .map entries => uptoBulkEntries entries + 1
  | .held _ => 1
def uptoBulkAll {H : Type} : List (DataW H) → Nat
  | [] => 0
  | d :: r => uptoBulk d + uptoBulkAll r
def uptoBulkEntries {H : Type} : List (Lit × DataW H) → Nat
  | [] => 0
  | x :: r => uptoBulkEntry x + uptoBulkEntries r
def uptoBulkEntry {H : Type} : Lit × DataW H → Nat
  | (.string bytes, d) => bytes.length + uptoBulk d + 1
  | (_, d) => uptoBulk d + 1
 end
def uptoSmall : (H : Type) → List (DataW H) → Bool := fun _ ds => decide (uptoBulkAll ds ≤ 1048576)
def OpenSpec.upto (s : _root_.Go.ChangeSpec) : _root_.Go.OpenSpec := { _root_.Go.OpenSpec.ofChange s with cond := some uptoSmall }

/-- 'pelotonlaw04.CheckDepths', WHERE WHAT IT READS IS OF BULK AT MOST 1048576: true; the input reads as it did. -/
def checkDepthsUptoRow : OpenClaim := { program := "ytinieegaaimilaa", sum := "db0b4a9d258f141a94f669689c5ff6167cc6db2d840e148a126a528914e7c63f", func := "peloton/pelotonlaw04.CheckDepths", spec := "checkDepths", unfollowed := true, recurses := true, apart := false, narrowed := true }
def CheckDepthsUptoSaid : Prop := checkDepthsUptoRow.holds Try.pinned (OpenSpec.upto checkDepthsSpec)

/-- 'pelotonlaw04.CheckHeld', WHERE WHAT IT READS IS OF BULK AT MOST 1048576: true; the input reads as it did. -/
def checkHeldUptoRow : OpenClaim := { program := "ytinieegaaimilaa", sum := "db0b4a9d258f141a94f669689c5ff6167cc6db2d840e148a126a528914e7c63f", func := "peloton/pelotonlaw04.CheckHeld", spec := "checkHeld", unfollowed := true, recurses := true, apart := false, narrowed := true }
def CheckHeldUptoSaid : Prop := checkHeldUptoRow.holds Try.pinned (OpenSpec.upto checkHeldSpec)

/-- 'pelotonlaw04.CheckNeeds', WHERE WHAT IT READS IS OF BULK AT MOST 1048576: true; the input reads as it did. -/
def checkNeedsUptoRow : OpenClaim := { program := "ytinieegaaimilaa", sum := "db0b4a9d258f141a94f669689c5ff6167cc6db2d840e148a126a528914e7c63f", func := "peloton/pelotonlaw04.CheckNeeds", spec := "checkNeeds", unfollowed := true, recurses := true, apart := false, narrowed := true }
def CheckNeedsUptoSaid : Prop := checkNeedsUptoRow.holds Try.pinned (OpenSpec.upto checkNeedsSpec)

/-- 'pelotonlaw04.CheckDead', WHERE WHAT IT READS IS OF BULK AT MOST 1048576: true; the input reads as it did. -/
def checkDeadUptoRow : OpenClaim := { program := "ytinieegaaimilaa", sum := "db0b4a9d258f141a94f669689c5ff6167cc6db2d840e148a126a528914e7c63f", func := "peloton/pelotonlaw04.CheckDead", spec := "checkDead", unfollowed := true, recurses := true, apart := false, narrowed := true }
def CheckDeadUptoSaid : Prop := checkDeadUptoRow.holds Try.pinned (OpenSpec.upto checkDeadSpec)

/-- 'pelotonlaw04.CheckHolds', WHERE WHAT IT READS IS OF BULK AT MOST 1048576: true; the input reads as it did. -/
def checkHoldsUptoRow : OpenClaim := { program := "ytinieegaaimilaa", sum := "db0b4a9d258f141a94f669689c5ff6167cc6db2d840e148a126a528914e7c63f", func := "peloton/pelotonlaw04.CheckHolds", spec := "checkHolds", unfollowed := true, recurses := true, apart := false, narrowed := true }
def CheckHoldsUptoSaid : Prop := checkHoldsUptoRow.holds Try.pinned (OpenSpec.upto checkHoldsSpec)

/-- 'pelotonlaw04.CheckPrograms', WHERE WHAT IT READS IS OF BULK AT MOST 1048576: true; the input reads as it did. -/
def checkProgramsUptoRow : OpenClaim := { program := "ytinieegaaimilaa", sum := "db0b4a9d258f141a94f669689c5ff6167cc6db2d840e148a126a528914e7c63f", func := "peloton/pelotonlaw04.CheckPrograms", spec := "checkPrograms", unfollowed := true, recurses := true, apart := false, narrowed := true }
def CheckProgramsUptoSaid : Prop := checkProgramsUptoRow.holds Try.pinned (OpenSpec.upto checkProgramsSpec)

/-- 'pelotonlaw04.CheckMoves', WHERE WHAT IT READS IS OF BULK AT MOST 1048576: true; the input reads as it did. -/
def checkMovesUptoRow : OpenClaim := { program := "ytinieegaaimilaa", sum := "db0b4a9d258f141a94f669689c5ff6167cc6db2d840e148a126a528914e7c63f", func := "peloton/pelotonlaw04.CheckMoves", spec := "checkMoves", unfollowed := true, recurses := true, apart := false, narrowed := true }
def CheckMovesUptoSaid : Prop := checkMovesUptoRow.holds Try.pinned (OpenSpec.upto checkMovesSpec)

end Rows
end Go.Proofs.Ytinieegaaimilaa
