/-
  No cell of these rows narrows 'for every input' (looked for: loops, veiled, ifaces, maps, wideKeys, modest, calm, conditions, laid).
  DERIVED. THE GIVEN ROWS OF THIS SEAT. 5 by the template 'for every input the law returns true; each argument reads behind the call as it read before'; 0 by the template 'total and deterministic' (their statements: YtgkfbagclkjilaaTotals.lean).
  GIVEN WITH THE SEED: the statements are not yours to turn. If you find one false, say at which input.
  Laid BY PROGRAM, IN A SANDBOX (cutbox-rows.mjs): the forced cells as the released guide's own fill.sh prints them over the translation be7ea5e6ff4d8a61… (all of the seat's roots in one cut). By AI agents, Wed Nov 11 2026. No macro, syntax, notation, axiom, sorry.
-/
import Derived.Test.YtgkfbagclkjilaaChecked
import GoSem.Claim
import GoSem.ClaimJoined
import GoSem.ClaimMapViews
import Derived.JoinedTies
import Derived.KernelRfl
namespace Go.Proofs.Ytgkfbagclkjilaa
/- THE CELL 'sum', in the pinned program and in every row, IS THE sha256 OF THE DUMP (.gsa) THAT YtgkfbagclkjilaaProg.lean LOADS. Nothing in Lean hashes anything: it is a label: what it is worth is what the hold of that sum in a sandbox is worth. -/
noncomputable def Try.pinned : Pinned := { name := "ytgkfbagclkjilaa", sum := "be7ea5e6ff4d8a614625d04ca67b7327a9154e07bd0e7b07e6babecab8f64202", checked := Try.checked }
namespace Rows
def none {H : Type} : Left H := { results := [], args := [] }

/-- 'pelotonlaw06.SerialRuns': WHATEVER THE INPUT: true; the input reads as it did. -/
def serialRunsSpec : ChangeSpec := { name := "serialRuns", fn := fun _ => fun
  | [d1, d2] => { results := [.lit (.bool true)], args := [d1, d2] }
  | _ => none }
def serialRunsRow : OpenClaim := { program := "ytgkfbagclkjilaa", sum := "be7ea5e6ff4d8a614625d04ca67b7327a9154e07bd0e7b07e6babecab8f64202", func := "peloton/pelotonlaw06.SerialRuns", spec := "serialRuns", unfollowed := true, recurses := true, apart := false }
def SerialRunsSaid : Prop := serialRunsRow.holds Try.pinned (OpenSpec.ofChange serialRunsSpec)

/-- ITS FALSE NEIGHBOUR: 'it returns false'. Refute it at one input. -/
def serialRunsWrong : ChangeSpec := { name := "serialRuns", fn := fun _ => fun
  | [d1, d2] => { results := [.lit (.bool false)], args := [d1, d2] }
  | _ => none }
def SerialRunsWrongFalsely : Prop := serialRunsRow.holds Try.pinned (OpenSpec.ofChange serialRunsWrong)

/-- 'pelotonlaw06.SerialFuel': WHATEVER THE INPUT: true; the input reads as it did. -/
def serialFuelSpec : ChangeSpec := { name := "serialFuel", fn := fun _ => fun
  | [d1, d2, d3] => { results := [.lit (.bool true)], args := [d1, d2, d3] }
  | _ => none }
def serialFuelRow : OpenClaim := { program := "ytgkfbagclkjilaa", sum := "be7ea5e6ff4d8a614625d04ca67b7327a9154e07bd0e7b07e6babecab8f64202", func := "peloton/pelotonlaw06.SerialFuel", spec := "serialFuel", unfollowed := true, recurses := true, apart := false }
def SerialFuelSaid : Prop := serialFuelRow.holds Try.pinned (OpenSpec.ofChange serialFuelSpec)

/-- ITS FALSE NEIGHBOUR: 'it returns false'. Refute it at one input. -/
def serialFuelWrong : ChangeSpec := { name := "serialFuel", fn := fun _ => fun
  | [d1, d2, d3] => { results := [.lit (.bool false)], args := [d1, d2, d3] }
  | _ => none }
def SerialFuelWrongFalsely : Prop := serialFuelRow.holds Try.pinned (OpenSpec.ofChange serialFuelWrong)

/-- 'pelotonlaw06.SerialTwice': WHATEVER THE INPUT: true; the input reads as it did. -/
def serialTwiceSpec : ChangeSpec := { name := "serialTwice", fn := fun _ => fun
  | [d1, d2, d3] => { results := [.lit (.bool true)], args := [d1, d2, d3] }
  | _ => none }
def serialTwiceRow : OpenClaim := { program := "ytgkfbagclkjilaa", sum := "be7ea5e6ff4d8a614625d04ca67b7327a9154e07bd0e7b07e6babecab8f64202", func := "peloton/pelotonlaw06.SerialTwice", spec := "serialTwice", unfollowed := true, recurses := true, apart := false }
def SerialTwiceSaid : Prop := serialTwiceRow.holds Try.pinned (OpenSpec.ofChange serialTwiceSpec)

/-- ITS FALSE NEIGHBOUR: 'it returns false'. Refute it at one input. -/
def serialTwiceWrong : ChangeSpec := { name := "serialTwice", fn := fun _ => fun
  | [d1, d2, d3] => { results := [.lit (.bool false)], args := [d1, d2, d3] }
  | _ => none }
def SerialTwiceWrongFalsely : Prop := serialTwiceRow.holds Try.pinned (OpenSpec.ofChange serialTwiceWrong)

/-- 'pelotonlaw06.SerialScopes': WHATEVER THE INPUT: true; the input reads as it did. -/
def serialScopesSpec : ChangeSpec := { name := "serialScopes", fn := fun _ => fun
  | [d1, d2, d3] => { results := [.lit (.bool true)], args := [d1, d2, d3] }
  | _ => none }
def serialScopesRow : OpenClaim := { program := "ytgkfbagclkjilaa", sum := "be7ea5e6ff4d8a614625d04ca67b7327a9154e07bd0e7b07e6babecab8f64202", func := "peloton/pelotonlaw06.SerialScopes", spec := "serialScopes", unfollowed := true, recurses := true, apart := false }
def SerialScopesSaid : Prop := serialScopesRow.holds Try.pinned (OpenSpec.ofChange serialScopesSpec)

/-- ITS FALSE NEIGHBOUR: 'it returns false'. Refute it at one input. -/
def serialScopesWrong : ChangeSpec := { name := "serialScopes", fn := fun _ => fun
  | [d1, d2, d3] => { results := [.lit (.bool false)], args := [d1, d2, d3] }
  | _ => none }
def SerialScopesWrongFalsely : Prop := serialScopesRow.holds Try.pinned (OpenSpec.ofChange serialScopesWrong)

/-- 'pelotonlaw06.SerialPlain': WHATEVER THE INPUT: true; the input reads as it did. -/
def serialPlainSpec : ChangeSpec := { name := "serialPlain", fn := fun _ => fun
  | [d1, d2] => { results := [.lit (.bool true)], args := [d1, d2] }
  | _ => none }
def serialPlainRow : OpenClaim := { program := "ytgkfbagclkjilaa", sum := "be7ea5e6ff4d8a614625d04ca67b7327a9154e07bd0e7b07e6babecab8f64202", func := "peloton/pelotonlaw06.SerialPlain", spec := "serialPlain", unfollowed := true, recurses := true, apart := false }
def SerialPlainSaid : Prop := serialPlainRow.holds Try.pinned (OpenSpec.ofChange serialPlainSpec)

/-- ITS FALSE NEIGHBOUR: 'it returns false'. Refute it at one input. -/
def serialPlainWrong : ChangeSpec := { name := "serialPlain", fn := fun _ => fun
  | [d1, d2] => { results := [.lit (.bool false)], args := [d1, d2] }
  | _ => none }
def SerialPlainWrongFalsely : Prop := serialPlainRow.holds Try.pinned (OpenSpec.ofChange serialPlainWrong)

/- THE SECOND FORM. 'bulk': how many values and letters a reading holds, each counted each time it is reached (what is shared counts as often as it is met; a slice's spare places count too). A statement '..UptoSaid' is the law's where the arguments, and the package variables that the reading takes, are together of bulk at most 1048576: NARROWER than '..Said'. Prove '..Said' where nothing that the law and all that it calls make is longer than what came in: it says more and counts as full. Else prove '..UptoSaid'. A law counts once. -/
mutual
def uptoBulk {H : Type} : DataW H → Nat
  | .lit (.string bytes) => bytes.length + 1
  | .lit _ => 1
  | .nil => 1
  | .ptr d => uptoBulk d + 1
  | .slice elems spare => uptoBulkAll elems + uptoBulkAll spare + 1
  | .agg parts => uptoBulkAll parts + 1
  | .iface _ d => uptoBulk d + 1
  | .map entries => uptoBulkEntries entries + 1
  | .held _ => 1
def uptoBulkAll {H : Type} : List (DataW H) → Nat
  | [] => 0
  | d :: r => uptoBulk d + uptoBulkAll r
def uptoBulkEntries {H : Type} : List (Lit × DataW H) → Nat
  | [] => 0
  | x :: r => uptoBulkEntry x + uptoBulkEntries r
def uptoBulkEntry {H : Type} : Lit × DataW H → Nat
  | (.string bytes, d) => bytes.length + uptoBulk d + 1
  | (_, d) => uptoBulk d + 1
 end
def uptoSmall : (H : Type) → List (DataW H) → Bool := fun _ ds => decide (uptoBulkAll ds ≤ 1048576)
def OpenSpec.upto (s : _root_.Go.ChangeSpec) : _root_.Go.OpenSpec := { _root_.Go.OpenSpec.ofChange s with cond := some uptoSmall }

/-- 'pelotonlaw06.SerialRuns', WHERE WHAT IT READS IS OF BULK AT MOST 1048576: true; the input reads as it did. -/
def serialRunsUptoRow : OpenClaim := { program := "ytgkfbagclkjilaa", sum := "be7ea5e6ff4d8a614625d04ca67b7327a9154e07bd0e7b07e6babecab8f64202", func := "peloton/pelotonlaw06.SerialRuns", spec := "serialRuns", unfollowed := true, recurses := true, apart := false, narrowed := true }
def SerialRunsUptoSaid : Prop := serialRunsUptoRow.holds Try.pinned (OpenSpec.upto serialRunsSpec)

/-- 'pelotonlaw06.SerialFuel', WHERE WHAT IT READS IS OF BULK AT MOST 1048576: true; the input reads as it did. -/
def serialFuelUptoRow : OpenClaim := { program := "ytgkfbagclkjilaa", sum := "be7ea5e6ff4d8a614625d04ca67b7327a9154e07bd0e7b07e6babecab8f64202", func := "peloton/pelotonlaw06.SerialFuel", spec := "serialFuel", unfollowed := true, recurses := true, apart := false, narrowed := true }
def SerialFuelUptoSaid : Prop := serialFuelUptoRow.holds Try.pinned (OpenSpec.upto serialFuelSpec)

/-- 'pelotonlaw06.SerialTwice', WHERE WHAT IT READS IS OF BULK AT MOST 1048576: true; the input reads as it did. -/
def serialTwiceUptoRow : OpenClaim := { program := "ytgkfbagclkjilaa", sum := "be7ea5e6ff4d8a614625d04ca67b7327a9154e07bd0e7b07e6babecab8f64202", func := "peloton/pelotonlaw06.SerialTwice", spec := "serialTwice", unfollowed := true, recurses := true, apart := false, narrowed := true }
def SerialTwiceUptoSaid : Prop := serialTwiceUptoRow.holds Try.pinned (OpenSpec.upto serialTwiceSpec)

/-- 'pelotonlaw06.SerialScopes', WHERE WHAT IT READS IS OF BULK AT MOST 1048576: true; the input reads as it did. -/
def serialScopesUptoRow : OpenClaim := { program := "ytgkfbagclkjilaa", sum := "be7ea5e6ff4d8a614625d04ca67b7327a9154e07bd0e7b07e6babecab8f64202", func := "peloton/pelotonlaw06.SerialScopes", spec := "serialScopes", unfollowed := true, recurses := true, apart := false, narrowed := true }
def SerialScopesUptoSaid : Prop := serialScopesUptoRow.holds Try.pinned (OpenSpec.upto serialScopesSpec)

/-- 'pelotonlaw06.SerialPlain', WHERE WHAT IT READS IS OF BULK AT MOST 1048576: true; the input reads as it did. -/
def serialPlainUptoRow : OpenClaim := { program := "ytgkfbagclkjilaa", sum := "be7ea5e6ff4d8a614625d04ca67b7327a9154e07bd0e7b07e6babecab8f64202", func := "peloton/pelotonlaw06.SerialPlain", spec := "serialPlain", unfollowed := true, recurses := true, apart := false, narrowed := true }
def SerialPlainUptoSaid : Prop := serialPlainUptoRow.holds Try.pinned (OpenSpec.upto serialPlainSpec)

end Rows
end Go.Proofs.Ytgkfbagclkjilaa
