/-
  NARROWER THAN 'FOR EVERY INPUT', by the rows' own cells (each row's printed sentence says how): SchedFits: laid · SchedStops: laid · SchedMay: laid · SchedAsked: laid · SchedSteps: laid · SchedSteals: laid · SchedCloses: laid · SchedHolds: laid · SchedPasses: laid · SchedBegins: laid · SchedNil: laid · SchedBound: laid · SchedAlone: laid · SchedSerial: laid · SchedOnce: laid · SchedHalts: laid.
  DERIVED. THE GIVEN ROWS OF THIS SEAT. 16 by the template 'for every input the law returns true; each argument reads behind the call as it read before'; 0 by the template 'total and deterministic' (their statements: YthidhjhkmjjckaaGreatDoorTotals.lean).
  GIVEN WITH THE SEED: the statements are not yours to turn. If you find one false, say at which input.
  Laid BY PROGRAM, IN A SANDBOX (cutbox-rows.mjs): the forced cells as the released guide's own fill.sh prints them over the translation 1de77890f8081281… (all of the seat's roots in one cut). By AI agents, Wed Nov 11 2026. No macro, syntax, notation, axiom, sorry.
-/
import Derived.Test.YthidhjhkmjjckaaGreatDoorChecked
import GoSem.PinnedTables
import GoSem.Claim
import GoSem.ClaimJoined
import GoSem.ClaimMapViews
import Derived.JoinedTies
import Derived.KernelRfl
namespace Go.Proofs.YthidhjhkmjjckaaGreatDoor
/- THE CELL 'sum', in the pinned program and in every row, IS THE sha256 OF THE DUMP (.gsa) THAT YthidhjhkmjjckaaGreatDoorProg.lean LOADS. Nothing in Lean hashes anything: it is a label: what it is worth is what the hold of that sum in a sandbox is worth. -/
noncomputable def Tryz.pinned : Pinned := { name := "ythidhjhkmjjckaagreatdoor", sum := "1de77890f8081281e5ad3b1f39eb5b24ad17ef6ca5b5ead4adbe1728785af11e", checked := Tryz.checked }
namespace Rows
def none {H : Type} : Left H := { results := [], args := [] }

/- WHAT THE LISTED PACKAGE-LEVEL VARIABLES READ AS WHEN THE CALL BEGINS. Each datum BY PROGRAM (the guide's laid-datum.mjs) off the statement by which the dump's own 'gosem.cut.vars' lays the variable. In a bare row this is a premise. The card (YthidhjhkmjjckaaGreatDoorCards.lean) ties it to the program's text. -/
def laid_math_bits_deBruijn64tab {H : Type} : DataW H := .agg [.lit (.int .u8 0), .lit (.int .u8 1), .lit (.int .u8 56), .lit (.int .u8 2), .lit (.int .u8 57), .lit (.int .u8 49), .lit (.int .u8 28), .lit (.int .u8 3), .lit (.int .u8 61), .lit (.int .u8 58), .lit (.int .u8 42), .lit (.int .u8 50), .lit (.int .u8 38), .lit (.int .u8 29), .lit (.int .u8 17), .lit (.int .u8 4), .lit (.int .u8 62), .lit (.int .u8 47), .lit (.int .u8 59), .lit (.int .u8 36), .lit (.int .u8 45), .lit (.int .u8 43), .lit (.int .u8 51), .lit (.int .u8 22), .lit (.int .u8 53), .lit (.int .u8 39), .lit (.int .u8 33), .lit (.int .u8 30), .lit (.int .u8 24), .lit (.int .u8 18), .lit (.int .u8 12), .lit (.int .u8 5), .lit (.int .u8 63), .lit (.int .u8 55), .lit (.int .u8 48), .lit (.int .u8 27), .lit (.int .u8 60), .lit (.int .u8 41), .lit (.int .u8 37), .lit (.int .u8 16), .lit (.int .u8 46), .lit (.int .u8 35), .lit (.int .u8 44), .lit (.int .u8 21), .lit (.int .u8 52), .lit (.int .u8 32), .lit (.int .u8 23), .lit (.int .u8 11), .lit (.int .u8 54), .lit (.int .u8 26), .lit (.int .u8 40), .lit (.int .u8 15), .lit (.int .u8 34), .lit (.int .u8 20), .lit (.int .u8 31), .lit (.int .u8 10), .lit (.int .u8 25), .lit (.int .u8 14), .lit (.int .u8 19), .lit (.int .u8 9), .lit (.int .u8 13), .lit (.int .u8 8), .lit (.int .u8 7), .lit (.int .u8 6)]
def laid_unicode_utf8_acceptRanges {H : Type} : DataW H := .agg [.agg [.lit (.int .u8 128), .lit (.int .u8 191)], .agg [.lit (.int .u8 160), .lit (.int .u8 191)], .agg [.lit (.int .u8 128), .lit (.int .u8 159)], .agg [.lit (.int .u8 144), .lit (.int .u8 191)], .agg [.lit (.int .u8 128), .lit (.int .u8 143)], .agg [.lit (.int .u8 0), .lit (.int .u8 0)], .agg [.lit (.int .u8 0), .lit (.int .u8 0)], .agg [.lit (.int .u8 0), .lit (.int .u8 0)], .agg [.lit (.int .u8 0), .lit (.int .u8 0)], .agg [.lit (.int .u8 0), .lit (.int .u8 0)], .agg [.lit (.int .u8 0), .lit (.int .u8 0)], .agg [.lit (.int .u8 0), .lit (.int .u8 0)], .agg [.lit (.int .u8 0), .lit (.int .u8 0)], .agg [.lit (.int .u8 0), .lit (.int .u8 0)], .agg [.lit (.int .u8 0), .lit (.int .u8 0)], .agg [.lit (.int .u8 0), .lit (.int .u8 0)]]
/-- One of Go's own tables, pinned by name: the form's constant. -/
def laid_unicode_utf8_first : DataW Unit := Go.Pinned.utf8First

/-- 'pelotonlaw19.SchedFits': WHATEVER THE INPUT: true; the input reads as it did. -/
def schedFitsSpec : ChangeSpec := { name := "schedFits", fn := fun _ => fun
  | [d] => { results := [.lit (.bool true)], args := [d] }
  | _ => none }
def schedFitsRow : OpenClaim := { program := "ythidhjhkmjjckaagreatdoor", sum := "1de77890f8081281e5ad3b1f39eb5b24ad17ef6ca5b5ead4adbe1728785af11e", func := "peloton/pelotonlaw19.SchedFits", spec := "schedFits", inPlace := ["internal/bytealg.IndexByteString", "internal/bytealg.IndexString"], unfollowed := true, recurses := true, named := ["math/bits.deBruijn64tab", "unicode/utf8.first", "unicode/utf8.acceptRanges", "internal/bytealg.MaxLen"], plainKeys := false, apart := false, laid := [("math/bits.deBruijn64tab", laid_math_bits_deBruijn64tab), ("unicode/utf8.acceptRanges", laid_unicode_utf8_acceptRanges), ("unicode/utf8.first", laid_unicode_utf8_first)] }
def SchedFitsSaid : Prop := schedFitsRow.holds Tryz.pinned (OpenSpec.ofChange schedFitsSpec)

/-- ITS FALSE NEIGHBOUR: 'it returns false'. Refute it at one input. -/
def schedFitsWrong : ChangeSpec := { name := "schedFits", fn := fun _ => fun
  | [d] => { results := [.lit (.bool false)], args := [d] }
  | _ => none }
def SchedFitsWrongFalsely : Prop := schedFitsRow.holds Tryz.pinned (OpenSpec.ofChange schedFitsWrong)

/-- 'pelotonlaw19.SchedStops': WHATEVER THE INPUT: true; the input reads as it did. -/
def schedStopsSpec : ChangeSpec := { name := "schedStops", fn := fun _ => fun
  | [d1, d2] => { results := [.lit (.bool true)], args := [d1, d2] }
  | _ => none }
def schedStopsRow : OpenClaim := { program := "ythidhjhkmjjckaagreatdoor", sum := "1de77890f8081281e5ad3b1f39eb5b24ad17ef6ca5b5ead4adbe1728785af11e", func := "peloton/pelotonlaw19.SchedStops", spec := "schedStops", inPlace := ["internal/bytealg.IndexByteString", "internal/bytealg.IndexString"], unfollowed := true, recurses := true, named := ["math/bits.deBruijn64tab", "unicode/utf8.first", "unicode/utf8.acceptRanges", "internal/bytealg.MaxLen"], plainKeys := false, apart := false, laid := [("math/bits.deBruijn64tab", laid_math_bits_deBruijn64tab), ("unicode/utf8.acceptRanges", laid_unicode_utf8_acceptRanges), ("unicode/utf8.first", laid_unicode_utf8_first)] }
def SchedStopsSaid : Prop := schedStopsRow.holds Tryz.pinned (OpenSpec.ofChange schedStopsSpec)

/-- ITS FALSE NEIGHBOUR: 'it returns false'. Refute it at one input. -/
def schedStopsWrong : ChangeSpec := { name := "schedStops", fn := fun _ => fun
  | [d1, d2] => { results := [.lit (.bool false)], args := [d1, d2] }
  | _ => none }
def SchedStopsWrongFalsely : Prop := schedStopsRow.holds Tryz.pinned (OpenSpec.ofChange schedStopsWrong)

/-- 'pelotonlaw19.SchedMay': WHATEVER THE INPUT: true; the input reads as it did. -/
def schedMaySpec : ChangeSpec := { name := "schedMay", fn := fun _ => fun
  | [d1, d2, d3] => { results := [.lit (.bool true)], args := [d1, d2, d3] }
  | _ => none }
def schedMayRow : OpenClaim := { program := "ythidhjhkmjjckaagreatdoor", sum := "1de77890f8081281e5ad3b1f39eb5b24ad17ef6ca5b5ead4adbe1728785af11e", func := "peloton/pelotonlaw19.SchedMay", spec := "schedMay", unfollowed := true, recurses := true, named := ["math/bits.deBruijn64tab"], plainKeys := false, apart := false, laid := [("math/bits.deBruijn64tab", laid_math_bits_deBruijn64tab)] }
def SchedMaySaid : Prop := schedMayRow.holds Tryz.pinned (OpenSpec.ofChange schedMaySpec)

/-- ITS FALSE NEIGHBOUR: 'it returns false'. Refute it at one input. -/
def schedMayWrong : ChangeSpec := { name := "schedMay", fn := fun _ => fun
  | [d1, d2, d3] => { results := [.lit (.bool false)], args := [d1, d2, d3] }
  | _ => none }
def SchedMayWrongFalsely : Prop := schedMayRow.holds Tryz.pinned (OpenSpec.ofChange schedMayWrong)

/-- 'pelotonlaw19.SchedAsked': WHATEVER THE INPUT: true; the input reads as it did. -/
def schedAskedSpec : ChangeSpec := { name := "schedAsked", fn := fun _ => fun
  | [d] => { results := [.lit (.bool true)], args := [d] }
  | _ => none }
def schedAskedRow : OpenClaim := { program := "ythidhjhkmjjckaagreatdoor", sum := "1de77890f8081281e5ad3b1f39eb5b24ad17ef6ca5b5ead4adbe1728785af11e", func := "peloton/pelotonlaw19.SchedAsked", spec := "schedAsked", unfollowed := true, recurses := true, named := ["math/bits.deBruijn64tab"], plainKeys := false, apart := false, laid := [("math/bits.deBruijn64tab", laid_math_bits_deBruijn64tab)] }
def SchedAskedSaid : Prop := schedAskedRow.holds Tryz.pinned (OpenSpec.ofChange schedAskedSpec)

/-- ITS FALSE NEIGHBOUR: 'it returns false'. Refute it at one input. -/
def schedAskedWrong : ChangeSpec := { name := "schedAsked", fn := fun _ => fun
  | [d] => { results := [.lit (.bool false)], args := [d] }
  | _ => none }
def SchedAskedWrongFalsely : Prop := schedAskedRow.holds Tryz.pinned (OpenSpec.ofChange schedAskedWrong)

/-- 'pelotonlaw19.SchedSteps': WHATEVER THE INPUT: true; the input reads as it did. -/
def schedStepsSpec : ChangeSpec := { name := "schedSteps", fn := fun _ => fun
  | [d1, d2] => { results := [.lit (.bool true)], args := [d1, d2] }
  | _ => none }
def schedStepsRow : OpenClaim := { program := "ythidhjhkmjjckaagreatdoor", sum := "1de77890f8081281e5ad3b1f39eb5b24ad17ef6ca5b5ead4adbe1728785af11e", func := "peloton/pelotonlaw19.SchedSteps", spec := "schedSteps", unfollowed := true, recurses := true, named := ["math/bits.deBruijn64tab"], plainKeys := false, apart := false, laid := [("math/bits.deBruijn64tab", laid_math_bits_deBruijn64tab)] }
def SchedStepsSaid : Prop := schedStepsRow.holds Tryz.pinned (OpenSpec.ofChange schedStepsSpec)

/-- ITS FALSE NEIGHBOUR: 'it returns false'. Refute it at one input. -/
def schedStepsWrong : ChangeSpec := { name := "schedSteps", fn := fun _ => fun
  | [d1, d2] => { results := [.lit (.bool false)], args := [d1, d2] }
  | _ => none }
def SchedStepsWrongFalsely : Prop := schedStepsRow.holds Tryz.pinned (OpenSpec.ofChange schedStepsWrong)

/-- 'pelotonlaw19.SchedSteals': WHATEVER THE INPUT: true; the input reads as it did. -/
def schedStealsSpec : ChangeSpec := { name := "schedSteals", fn := fun _ => fun
  | [d1, d2, d3] => { results := [.lit (.bool true)], args := [d1, d2, d3] }
  | _ => none }
def schedStealsRow : OpenClaim := { program := "ythidhjhkmjjckaagreatdoor", sum := "1de77890f8081281e5ad3b1f39eb5b24ad17ef6ca5b5ead4adbe1728785af11e", func := "peloton/pelotonlaw19.SchedSteals", spec := "schedSteals", unfollowed := true, recurses := true, named := ["math/bits.deBruijn64tab"], plainKeys := false, apart := false, laid := [("math/bits.deBruijn64tab", laid_math_bits_deBruijn64tab)] }
def SchedStealsSaid : Prop := schedStealsRow.holds Tryz.pinned (OpenSpec.ofChange schedStealsSpec)

/-- ITS FALSE NEIGHBOUR: 'it returns false'. Refute it at one input. -/
def schedStealsWrong : ChangeSpec := { name := "schedSteals", fn := fun _ => fun
  | [d1, d2, d3] => { results := [.lit (.bool false)], args := [d1, d2, d3] }
  | _ => none }
def SchedStealsWrongFalsely : Prop := schedStealsRow.holds Tryz.pinned (OpenSpec.ofChange schedStealsWrong)

/-- 'pelotonlaw19.SchedCloses': WHATEVER THE INPUT: true; the input reads as it did. -/
def schedClosesSpec : ChangeSpec := { name := "schedCloses", fn := fun _ => fun
  | [d] => { results := [.lit (.bool true)], args := [d] }
  | _ => none }
def schedClosesRow : OpenClaim := { program := "ythidhjhkmjjckaagreatdoor", sum := "1de77890f8081281e5ad3b1f39eb5b24ad17ef6ca5b5ead4adbe1728785af11e", func := "peloton/pelotonlaw19.SchedCloses", spec := "schedCloses", unfollowed := true, recurses := true, named := ["math/bits.deBruijn64tab"], plainKeys := false, apart := false, laid := [("math/bits.deBruijn64tab", laid_math_bits_deBruijn64tab)] }
def SchedClosesSaid : Prop := schedClosesRow.holds Tryz.pinned (OpenSpec.ofChange schedClosesSpec)

/-- ITS FALSE NEIGHBOUR: 'it returns false'. Refute it at one input. -/
def schedClosesWrong : ChangeSpec := { name := "schedCloses", fn := fun _ => fun
  | [d] => { results := [.lit (.bool false)], args := [d] }
  | _ => none }
def SchedClosesWrongFalsely : Prop := schedClosesRow.holds Tryz.pinned (OpenSpec.ofChange schedClosesWrong)

/-- 'pelotonlaw19.SchedHolds': WHATEVER THE INPUT: true; the input reads as it did. -/
def schedHoldsSpec : ChangeSpec := { name := "schedHolds", fn := fun _ => fun
  | [d1, d2] => { results := [.lit (.bool true)], args := [d1, d2] }
  | _ => none }
def schedHoldsRow : OpenClaim := { program := "ythidhjhkmjjckaagreatdoor", sum := "1de77890f8081281e5ad3b1f39eb5b24ad17ef6ca5b5ead4adbe1728785af11e", func := "peloton/pelotonlaw19.SchedHolds", spec := "schedHolds", unfollowed := true, recurses := true, named := ["math/bits.deBruijn64tab"], plainKeys := false, apart := false, laid := [("math/bits.deBruijn64tab", laid_math_bits_deBruijn64tab)] }
def SchedHoldsSaid : Prop := schedHoldsRow.holds Tryz.pinned (OpenSpec.ofChange schedHoldsSpec)

/-- ITS FALSE NEIGHBOUR: 'it returns false'. Refute it at one input. -/
def schedHoldsWrong : ChangeSpec := { name := "schedHolds", fn := fun _ => fun
  | [d1, d2] => { results := [.lit (.bool false)], args := [d1, d2] }
  | _ => none }
def SchedHoldsWrongFalsely : Prop := schedHoldsRow.holds Tryz.pinned (OpenSpec.ofChange schedHoldsWrong)

/-- 'pelotonlaw19.SchedPasses': WHATEVER THE INPUT: true; the input reads as it did. -/
def schedPassesSpec : ChangeSpec := { name := "schedPasses", fn := fun _ => fun
  | [d1, d2] => { results := [.lit (.bool true)], args := [d1, d2] }
  | _ => none }
def schedPassesRow : OpenClaim := { program := "ythidhjhkmjjckaagreatdoor", sum := "1de77890f8081281e5ad3b1f39eb5b24ad17ef6ca5b5ead4adbe1728785af11e", func := "peloton/pelotonlaw19.SchedPasses", spec := "schedPasses", unfollowed := true, recurses := true, named := ["math/bits.deBruijn64tab"], plainKeys := false, apart := false, laid := [("math/bits.deBruijn64tab", laid_math_bits_deBruijn64tab)] }
def SchedPassesSaid : Prop := schedPassesRow.holds Tryz.pinned (OpenSpec.ofChange schedPassesSpec)

/-- ITS FALSE NEIGHBOUR: 'it returns false'. Refute it at one input. -/
def schedPassesWrong : ChangeSpec := { name := "schedPasses", fn := fun _ => fun
  | [d1, d2] => { results := [.lit (.bool false)], args := [d1, d2] }
  | _ => none }
def SchedPassesWrongFalsely : Prop := schedPassesRow.holds Tryz.pinned (OpenSpec.ofChange schedPassesWrong)

/-- 'pelotonlaw19.SchedBegins': WHATEVER THE INPUT: true; the input reads as it did. -/
def schedBeginsSpec : ChangeSpec := { name := "schedBegins", fn := fun _ => fun
  | [d] => { results := [.lit (.bool true)], args := [d] }
  | _ => none }
def schedBeginsRow : OpenClaim := { program := "ythidhjhkmjjckaagreatdoor", sum := "1de77890f8081281e5ad3b1f39eb5b24ad17ef6ca5b5ead4adbe1728785af11e", func := "peloton/pelotonlaw19.SchedBegins", spec := "schedBegins", unfollowed := true, recurses := true, named := ["math/bits.deBruijn64tab"], plainKeys := false, apart := false, laid := [("math/bits.deBruijn64tab", laid_math_bits_deBruijn64tab)] }
def SchedBeginsSaid : Prop := schedBeginsRow.holds Tryz.pinned (OpenSpec.ofChange schedBeginsSpec)

/-- ITS FALSE NEIGHBOUR: 'it returns false'. Refute it at one input. -/
def schedBeginsWrong : ChangeSpec := { name := "schedBegins", fn := fun _ => fun
  | [d] => { results := [.lit (.bool false)], args := [d] }
  | _ => none }
def SchedBeginsWrongFalsely : Prop := schedBeginsRow.holds Tryz.pinned (OpenSpec.ofChange schedBeginsWrong)

/-- 'pelotonlaw19.SchedNil': WHATEVER THE INPUT: true; the input reads as it did. -/
def schedNilSpec : ChangeSpec := { name := "schedNil", fn := fun _ => fun
  | [d] => { results := [.lit (.bool true)], args := [d] }
  | _ => none }
def schedNilRow : OpenClaim := { program := "ythidhjhkmjjckaagreatdoor", sum := "1de77890f8081281e5ad3b1f39eb5b24ad17ef6ca5b5ead4adbe1728785af11e", func := "peloton/pelotonlaw19.SchedNil", spec := "schedNil", unfollowed := true, recurses := true, named := ["math/bits.deBruijn64tab"], plainKeys := false, apart := false, laid := [("math/bits.deBruijn64tab", laid_math_bits_deBruijn64tab)] }
def SchedNilSaid : Prop := schedNilRow.holds Tryz.pinned (OpenSpec.ofChange schedNilSpec)

/-- ITS FALSE NEIGHBOUR: 'it returns false'. Refute it at one input. -/
def schedNilWrong : ChangeSpec := { name := "schedNil", fn := fun _ => fun
  | [d] => { results := [.lit (.bool false)], args := [d] }
  | _ => none }
def SchedNilWrongFalsely : Prop := schedNilRow.holds Tryz.pinned (OpenSpec.ofChange schedNilWrong)

/-- 'pelotonlaw19.SchedBound': WHATEVER THE INPUT: true; the input reads as it did. -/
def schedBoundSpec : ChangeSpec := { name := "schedBound", fn := fun _ => fun
  | [d] => { results := [.lit (.bool true)], args := [d] }
  | _ => none }
def schedBoundRow : OpenClaim := { program := "ythidhjhkmjjckaagreatdoor", sum := "1de77890f8081281e5ad3b1f39eb5b24ad17ef6ca5b5ead4adbe1728785af11e", func := "peloton/pelotonlaw19.SchedBound", spec := "schedBound", unfollowed := true, recurses := true, named := ["math/bits.deBruijn64tab"], plainKeys := false, apart := false, laid := [("math/bits.deBruijn64tab", laid_math_bits_deBruijn64tab)] }
def SchedBoundSaid : Prop := schedBoundRow.holds Tryz.pinned (OpenSpec.ofChange schedBoundSpec)

/-- ITS FALSE NEIGHBOUR: 'it returns false'. Refute it at one input. -/
def schedBoundWrong : ChangeSpec := { name := "schedBound", fn := fun _ => fun
  | [d] => { results := [.lit (.bool false)], args := [d] }
  | _ => none }
def SchedBoundWrongFalsely : Prop := schedBoundRow.holds Tryz.pinned (OpenSpec.ofChange schedBoundWrong)

/-- 'pelotonlaw19.SchedAlone': WHATEVER THE INPUT: true; the input reads as it did. -/
def schedAloneSpec : ChangeSpec := { name := "schedAlone", fn := fun _ => fun
  | [d1, d2] => { results := [.lit (.bool true)], args := [d1, d2] }
  | _ => none }
def schedAloneRow : OpenClaim := { program := "ythidhjhkmjjckaagreatdoor", sum := "1de77890f8081281e5ad3b1f39eb5b24ad17ef6ca5b5ead4adbe1728785af11e", func := "peloton/pelotonlaw19.SchedAlone", spec := "schedAlone", unfollowed := true, recurses := true, named := ["math/bits.deBruijn64tab"], plainKeys := false, apart := false, laid := [("math/bits.deBruijn64tab", laid_math_bits_deBruijn64tab)] }
def SchedAloneSaid : Prop := schedAloneRow.holds Tryz.pinned (OpenSpec.ofChange schedAloneSpec)

/-- ITS FALSE NEIGHBOUR: 'it returns false'. Refute it at one input. -/
def schedAloneWrong : ChangeSpec := { name := "schedAlone", fn := fun _ => fun
  | [d1, d2] => { results := [.lit (.bool false)], args := [d1, d2] }
  | _ => none }
def SchedAloneWrongFalsely : Prop := schedAloneRow.holds Tryz.pinned (OpenSpec.ofChange schedAloneWrong)

/-- 'pelotonlaw19.SchedSerial': WHATEVER THE INPUT: true; the input reads as it did. -/
def schedSerialSpec : ChangeSpec := { name := "schedSerial", fn := fun _ => fun
  | [d] => { results := [.lit (.bool true)], args := [d] }
  | _ => none }
def schedSerialRow : OpenClaim := { program := "ythidhjhkmjjckaagreatdoor", sum := "1de77890f8081281e5ad3b1f39eb5b24ad17ef6ca5b5ead4adbe1728785af11e", func := "peloton/pelotonlaw19.SchedSerial", spec := "schedSerial", unfollowed := true, recurses := true, named := ["math/bits.deBruijn64tab"], plainKeys := false, apart := false, laid := [("math/bits.deBruijn64tab", laid_math_bits_deBruijn64tab)] }
def SchedSerialSaid : Prop := schedSerialRow.holds Tryz.pinned (OpenSpec.ofChange schedSerialSpec)

/-- ITS FALSE NEIGHBOUR: 'it returns false'. Refute it at one input. -/
def schedSerialWrong : ChangeSpec := { name := "schedSerial", fn := fun _ => fun
  | [d] => { results := [.lit (.bool false)], args := [d] }
  | _ => none }
def SchedSerialWrongFalsely : Prop := schedSerialRow.holds Tryz.pinned (OpenSpec.ofChange schedSerialWrong)

/-- 'pelotonlaw19.SchedOnce': WHATEVER THE INPUT: true; the input reads as it did. -/
def schedOnceSpec : ChangeSpec := { name := "schedOnce", fn := fun _ => fun
  | [d] => { results := [.lit (.bool true)], args := [d] }
  | _ => none }
def schedOnceRow : OpenClaim := { program := "ythidhjhkmjjckaagreatdoor", sum := "1de77890f8081281e5ad3b1f39eb5b24ad17ef6ca5b5ead4adbe1728785af11e", func := "peloton/pelotonlaw19.SchedOnce", spec := "schedOnce", inPlace := ["internal/bytealg.IndexByteString", "internal/bytealg.IndexString"], unfollowed := true, recurses := true, named := ["math/bits.deBruijn64tab", "unicode/utf8.first", "unicode/utf8.acceptRanges", "internal/bytealg.MaxLen"], plainKeys := false, apart := false, laid := [("math/bits.deBruijn64tab", laid_math_bits_deBruijn64tab), ("unicode/utf8.acceptRanges", laid_unicode_utf8_acceptRanges), ("unicode/utf8.first", laid_unicode_utf8_first)] }
def SchedOnceSaid : Prop := schedOnceRow.holds Tryz.pinned (OpenSpec.ofChange schedOnceSpec)

/-- ITS FALSE NEIGHBOUR: 'it returns false'. Refute it at one input. -/
def schedOnceWrong : ChangeSpec := { name := "schedOnce", fn := fun _ => fun
  | [d] => { results := [.lit (.bool false)], args := [d] }
  | _ => none }
def SchedOnceWrongFalsely : Prop := schedOnceRow.holds Tryz.pinned (OpenSpec.ofChange schedOnceWrong)

/-- 'pelotonlaw19.SchedHalts': WHATEVER THE INPUT: true; the input reads as it did. -/
def schedHaltsSpec : ChangeSpec := { name := "schedHalts", fn := fun _ => fun
  | [d] => { results := [.lit (.bool true)], args := [d] }
  | _ => none }
def schedHaltsRow : OpenClaim := { program := "ythidhjhkmjjckaagreatdoor", sum := "1de77890f8081281e5ad3b1f39eb5b24ad17ef6ca5b5ead4adbe1728785af11e", func := "peloton/pelotonlaw19.SchedHalts", spec := "schedHalts", inPlace := ["internal/bytealg.IndexByteString", "internal/bytealg.IndexString"], unfollowed := true, recurses := true, named := ["math/bits.deBruijn64tab", "unicode/utf8.first", "unicode/utf8.acceptRanges", "internal/bytealg.MaxLen"], plainKeys := false, apart := false, laid := [("math/bits.deBruijn64tab", laid_math_bits_deBruijn64tab), ("unicode/utf8.acceptRanges", laid_unicode_utf8_acceptRanges), ("unicode/utf8.first", laid_unicode_utf8_first)] }
def SchedHaltsSaid : Prop := schedHaltsRow.holds Tryz.pinned (OpenSpec.ofChange schedHaltsSpec)

/-- ITS FALSE NEIGHBOUR: 'it returns false'. Refute it at one input. -/
def schedHaltsWrong : ChangeSpec := { name := "schedHalts", fn := fun _ => fun
  | [d] => { results := [.lit (.bool false)], args := [d] }
  | _ => none }
def SchedHaltsWrongFalsely : Prop := schedHaltsRow.holds Tryz.pinned (OpenSpec.ofChange schedHaltsWrong)

/- THE SECOND FORM. 'bulk': how many values and letters a reading holds, each counted each time it is reached (what is shared counts as often as it is met; a slice's spare places count too). A statement '..UptoSaid' is the law's where the arguments, and the package variables that the reading takes, are together of bulk at most 1048576: NARROWER than '..Said'. Prove '..Said' where nothing that the law and all that it calls make is longer than what came in: it says more and counts as full. Else prove '..UptoSaid'. A law counts once. -/
mutual
def uptoBulk {H : Type} : DataW H → Nat
  | .lit (.string bytes) => bytes.length + 1
  | .lit _ => 1
  | .nil => 1
  | .ptr d => uptoBulk d + 1
  | .slice elems spare => uptoBulkAll elems + uptoBulkAll spare + 1
  | .agg parts => uptoBulkAll parts + 1
  | .iface _ d => uptoBulk d + 1
  | .map entries => uptoBulkEntries entries + 1
  | .held _ => 1
def uptoBulkAll {H : Type} : List (DataW H) → Nat
  | [] => 0
  | d :: r => uptoBulk d + uptoBulkAll r
def uptoBulkEntries {H : Type} : List (Lit × DataW H) → Nat
  | [] => 0
  | x :: r => uptoBulkEntry x + uptoBulkEntries r
def uptoBulkEntry {H : Type} : Lit × DataW H → Nat
  | (.string bytes, d) => bytes.length + uptoBulk d + 1
  | (_, d) => uptoBulk d + 1
 end
def uptoSmall : (H : Type) → List (DataW H) → Bool := fun _ ds => decide (uptoBulkAll ds ≤ 1048576)
def OpenSpec.upto (s : _root_.Go.ChangeSpec) : _root_.Go.OpenSpec := { _root_.Go.OpenSpec.ofChange s with cond := some uptoSmall }

/-- 'pelotonlaw19.SchedFits', WHERE WHAT IT READS IS OF BULK AT MOST 1048576: true; the input reads as it did. -/
def schedFitsUptoRow : OpenClaim := { program := "ythidhjhkmjjckaagreatdoor", sum := "1de77890f8081281e5ad3b1f39eb5b24ad17ef6ca5b5ead4adbe1728785af11e", func := "peloton/pelotonlaw19.SchedFits", spec := "schedFits", inPlace := ["internal/bytealg.IndexByteString", "internal/bytealg.IndexString"], unfollowed := true, recurses := true, named := ["math/bits.deBruijn64tab", "unicode/utf8.first", "unicode/utf8.acceptRanges", "internal/bytealg.MaxLen"], plainKeys := false, apart := false, laid := [("math/bits.deBruijn64tab", laid_math_bits_deBruijn64tab), ("unicode/utf8.acceptRanges", laid_unicode_utf8_acceptRanges), ("unicode/utf8.first", laid_unicode_utf8_first)], narrowed := true }
def SchedFitsUptoSaid : Prop := schedFitsUptoRow.holds Tryz.pinned (OpenSpec.upto schedFitsSpec)

/-- 'pelotonlaw19.SchedStops', WHERE WHAT IT READS IS OF BULK AT MOST 1048576: true; the input reads as it did. -/
def schedStopsUptoRow : OpenClaim := { program := "ythidhjhkmjjckaagreatdoor", sum := "1de77890f8081281e5ad3b1f39eb5b24ad17ef6ca5b5ead4adbe1728785af11e", func := "peloton/pelotonlaw19.SchedStops", spec := "schedStops", inPlace := ["internal/bytealg.IndexByteString", "internal/bytealg.IndexString"], unfollowed := true, recurses := true, named := ["math/bits.deBruijn64tab", "unicode/utf8.first", "unicode/utf8.acceptRanges", "internal/bytealg.MaxLen"], plainKeys := false, apart := false, laid := [("math/bits.deBruijn64tab", laid_math_bits_deBruijn64tab), ("unicode/utf8.acceptRanges", laid_unicode_utf8_acceptRanges), ("unicode/utf8.first", laid_unicode_utf8_first)], narrowed := true }
def SchedStopsUptoSaid : Prop := schedStopsUptoRow.holds Tryz.pinned (OpenSpec.upto schedStopsSpec)

/-- 'pelotonlaw19.SchedMay', WHERE WHAT IT READS IS OF BULK AT MOST 1048576: true; the input reads as it did. -/
def schedMayUptoRow : OpenClaim := { program := "ythidhjhkmjjckaagreatdoor", sum := "1de77890f8081281e5ad3b1f39eb5b24ad17ef6ca5b5ead4adbe1728785af11e", func := "peloton/pelotonlaw19.SchedMay", spec := "schedMay", unfollowed := true, recurses := true, named := ["math/bits.deBruijn64tab"], plainKeys := false, apart := false, laid := [("math/bits.deBruijn64tab", laid_math_bits_deBruijn64tab)], narrowed := true }
def SchedMayUptoSaid : Prop := schedMayUptoRow.holds Tryz.pinned (OpenSpec.upto schedMaySpec)

/-- 'pelotonlaw19.SchedAsked', WHERE WHAT IT READS IS OF BULK AT MOST 1048576: true; the input reads as it did. -/
def schedAskedUptoRow : OpenClaim := { program := "ythidhjhkmjjckaagreatdoor", sum := "1de77890f8081281e5ad3b1f39eb5b24ad17ef6ca5b5ead4adbe1728785af11e", func := "peloton/pelotonlaw19.SchedAsked", spec := "schedAsked", unfollowed := true, recurses := true, named := ["math/bits.deBruijn64tab"], plainKeys := false, apart := false, laid := [("math/bits.deBruijn64tab", laid_math_bits_deBruijn64tab)], narrowed := true }
def SchedAskedUptoSaid : Prop := schedAskedUptoRow.holds Tryz.pinned (OpenSpec.upto schedAskedSpec)

/-- 'pelotonlaw19.SchedSteps', WHERE WHAT IT READS IS OF BULK AT MOST 1048576: true; the input reads as it did. -/
def schedStepsUptoRow : OpenClaim := { program := "ythidhjhkmjjckaagreatdoor", sum := "1de77890f8081281e5ad3b1f39eb5b24ad17ef6ca5b5ead4adbe1728785af11e", func := "peloton/pelotonlaw19.SchedSteps", spec := "schedSteps", unfollowed := true, recurses := true, named := ["math/bits.deBruijn64tab"], plainKeys := false, apart := false, laid := [("math/bits.deBruijn64tab", laid_math_bits_deBruijn64tab)], narrowed := true }
def SchedStepsUptoSaid : Prop := schedStepsUptoRow.holds Tryz.pinned (OpenSpec.upto schedStepsSpec)

/-- 'pelotonlaw19.SchedSteals', WHERE WHAT IT READS IS OF BULK AT MOST 1048576: true; the input reads as it did. -/
def schedStealsUptoRow : OpenClaim := { program := "ythidhjhkmjjckaagreatdoor", sum := "1de77890f8081281e5ad3b1f39eb5b24ad17ef6ca5b5ead4adbe1728785af11e", func := "peloton/pelotonlaw19.SchedSteals", spec := "schedSteals", unfollowed := true, recurses := true, named := ["math/bits.deBruijn64tab"], plainKeys := false, apart := false, laid := [("math/bits.deBruijn64tab", laid_math_bits_deBruijn64tab)], narrowed := true }
def SchedStealsUptoSaid : Prop := schedStealsUptoRow.holds Tryz.pinned (OpenSpec.upto schedStealsSpec)

/-- 'pelotonlaw19.SchedCloses', WHERE WHAT IT READS IS OF BULK AT MOST 1048576: true; the input reads as it did. -/
def schedClosesUptoRow : OpenClaim := { program := "ythidhjhkmjjckaagreatdoor", sum := "1de77890f8081281e5ad3b1f39eb5b24ad17ef6ca5b5ead4adbe1728785af11e", func := "peloton/pelotonlaw19.SchedCloses", spec := "schedCloses", unfollowed := true, recurses := true, named := ["math/bits.deBruijn64tab"], plainKeys := false, apart := false, laid := [("math/bits.deBruijn64tab", laid_math_bits_deBruijn64tab)], narrowed := true }
def SchedClosesUptoSaid : Prop := schedClosesUptoRow.holds Tryz.pinned (OpenSpec.upto schedClosesSpec)

/-- 'pelotonlaw19.SchedHolds', WHERE WHAT IT READS IS OF BULK AT MOST 1048576: true; the input reads as it did. -/
def schedHoldsUptoRow : OpenClaim := { program := "ythidhjhkmjjckaagreatdoor", sum := "1de77890f8081281e5ad3b1f39eb5b24ad17ef6ca5b5ead4adbe1728785af11e", func := "peloton/pelotonlaw19.SchedHolds", spec := "schedHolds", unfollowed := true, recurses := true, named := ["math/bits.deBruijn64tab"], plainKeys := false, apart := false, laid := [("math/bits.deBruijn64tab", laid_math_bits_deBruijn64tab)], narrowed := true }
def SchedHoldsUptoSaid : Prop := schedHoldsUptoRow.holds Tryz.pinned (OpenSpec.upto schedHoldsSpec)

/-- 'pelotonlaw19.SchedPasses', WHERE WHAT IT READS IS OF BULK AT MOST 1048576: true; the input reads as it did. -/
def schedPassesUptoRow : OpenClaim := { program := "ythidhjhkmjjckaagreatdoor", sum := "1de77890f8081281e5ad3b1f39eb5b24ad17ef6ca5b5ead4adbe1728785af11e", func := "peloton/pelotonlaw19.SchedPasses", spec := "schedPasses", unfollowed := true, recurses := true, named := ["math/bits.deBruijn64tab"], plainKeys := false, apart := false, laid := [("math/bits.deBruijn64tab", laid_math_bits_deBruijn64tab)], narrowed := true }
def SchedPassesUptoSaid : Prop := schedPassesUptoRow.holds Tryz.pinned (OpenSpec.upto schedPassesSpec)

/-- 'pelotonlaw19.SchedBegins', WHERE WHAT IT READS IS OF BULK AT MOST 1048576: true; the input reads as it did. -/
def schedBeginsUptoRow : OpenClaim := { program := "ythidhjhkmjjckaagreatdoor", sum := "1de77890f8081281e5ad3b1f39eb5b24ad17ef6ca5b5ead4adbe1728785af11e", func := "peloton/pelotonlaw19.SchedBegins", spec := "schedBegins", unfollowed := true, recurses := true, named := ["math/bits.deBruijn64tab"], plainKeys := false, apart := false, laid := [("math/bits.deBruijn64tab", laid_math_bits_deBruijn64tab)], narrowed := true }
def SchedBeginsUptoSaid : Prop := schedBeginsUptoRow.holds Tryz.pinned (OpenSpec.upto schedBeginsSpec)

/-- 'pelotonlaw19.SchedNil', WHERE WHAT IT READS IS OF BULK AT MOST 1048576: true; the input reads as it did. -/
def schedNilUptoRow : OpenClaim := { program := "ythidhjhkmjjckaagreatdoor", sum := "1de77890f8081281e5ad3b1f39eb5b24ad17ef6ca5b5ead4adbe1728785af11e", func := "peloton/pelotonlaw19.SchedNil", spec := "schedNil", unfollowed := true, recurses := true, named := ["math/bits.deBruijn64tab"], plainKeys := false, apart := false, laid := [("math/bits.deBruijn64tab", laid_math_bits_deBruijn64tab)], narrowed := true }
def SchedNilUptoSaid : Prop := schedNilUptoRow.holds Tryz.pinned (OpenSpec.upto schedNilSpec)

/-- 'pelotonlaw19.SchedBound', WHERE WHAT IT READS IS OF BULK AT MOST 1048576: true; the input reads as it did. -/
def schedBoundUptoRow : OpenClaim := { program := "ythidhjhkmjjckaagreatdoor", sum := "1de77890f8081281e5ad3b1f39eb5b24ad17ef6ca5b5ead4adbe1728785af11e", func := "peloton/pelotonlaw19.SchedBound", spec := "schedBound", unfollowed := true, recurses := true, named := ["math/bits.deBruijn64tab"], plainKeys := false, apart := false, laid := [("math/bits.deBruijn64tab", laid_math_bits_deBruijn64tab)], narrowed := true }
def SchedBoundUptoSaid : Prop := schedBoundUptoRow.holds Tryz.pinned (OpenSpec.upto schedBoundSpec)

/-- 'pelotonlaw19.SchedAlone', WHERE WHAT IT READS IS OF BULK AT MOST 1048576: true; the input reads as it did. -/
def schedAloneUptoRow : OpenClaim := { program := "ythidhjhkmjjckaagreatdoor", sum := "1de77890f8081281e5ad3b1f39eb5b24ad17ef6ca5b5ead4adbe1728785af11e", func := "peloton/pelotonlaw19.SchedAlone", spec := "schedAlone", unfollowed := true, recurses := true, named := ["math/bits.deBruijn64tab"], plainKeys := false, apart := false, laid := [("math/bits.deBruijn64tab", laid_math_bits_deBruijn64tab)], narrowed := true }
def SchedAloneUptoSaid : Prop := schedAloneUptoRow.holds Tryz.pinned (OpenSpec.upto schedAloneSpec)

/-- 'pelotonlaw19.SchedSerial', WHERE WHAT IT READS IS OF BULK AT MOST 1048576: true; the input reads as it did. -/
def schedSerialUptoRow : OpenClaim := { program := "ythidhjhkmjjckaagreatdoor", sum := "1de77890f8081281e5ad3b1f39eb5b24ad17ef6ca5b5ead4adbe1728785af11e", func := "peloton/pelotonlaw19.SchedSerial", spec := "schedSerial", unfollowed := true, recurses := true, named := ["math/bits.deBruijn64tab"], plainKeys := false, apart := false, laid := [("math/bits.deBruijn64tab", laid_math_bits_deBruijn64tab)], narrowed := true }
def SchedSerialUptoSaid : Prop := schedSerialUptoRow.holds Tryz.pinned (OpenSpec.upto schedSerialSpec)

/-- 'pelotonlaw19.SchedOnce', WHERE WHAT IT READS IS OF BULK AT MOST 1048576: true; the input reads as it did. -/
def schedOnceUptoRow : OpenClaim := { program := "ythidhjhkmjjckaagreatdoor", sum := "1de77890f8081281e5ad3b1f39eb5b24ad17ef6ca5b5ead4adbe1728785af11e", func := "peloton/pelotonlaw19.SchedOnce", spec := "schedOnce", inPlace := ["internal/bytealg.IndexByteString", "internal/bytealg.IndexString"], unfollowed := true, recurses := true, named := ["math/bits.deBruijn64tab", "unicode/utf8.first", "unicode/utf8.acceptRanges", "internal/bytealg.MaxLen"], plainKeys := false, apart := false, laid := [("math/bits.deBruijn64tab", laid_math_bits_deBruijn64tab), ("unicode/utf8.acceptRanges", laid_unicode_utf8_acceptRanges), ("unicode/utf8.first", laid_unicode_utf8_first)], narrowed := true }
def SchedOnceUptoSaid : Prop := schedOnceUptoRow.holds Tryz.pinned (OpenSpec.upto schedOnceSpec)

/-- 'pelotonlaw19.SchedHalts', WHERE WHAT IT READS IS OF BULK AT MOST 1048576: true; the input reads as it did. -/
def schedHaltsUptoRow : OpenClaim := { program := "ythidhjhkmjjckaagreatdoor", sum := "1de77890f8081281e5ad3b1f39eb5b24ad17ef6ca5b5ead4adbe1728785af11e", func := "peloton/pelotonlaw19.SchedHalts", spec := "schedHalts", inPlace := ["internal/bytealg.IndexByteString", "internal/bytealg.IndexString"], unfollowed := true, recurses := true, named := ["math/bits.deBruijn64tab", "unicode/utf8.first", "unicode/utf8.acceptRanges", "internal/bytealg.MaxLen"], plainKeys := false, apart := false, laid := [("math/bits.deBruijn64tab", laid_math_bits_deBruijn64tab), ("unicode/utf8.acceptRanges", laid_unicode_utf8_acceptRanges), ("unicode/utf8.first", laid_unicode_utf8_first)], narrowed := true }
def SchedHaltsUptoSaid : Prop := schedHaltsUptoRow.holds Tryz.pinned (OpenSpec.upto schedHaltsSpec)

end Rows
end Go.Proofs.YthidhjhkmjjckaaGreatDoor
