/-
  NARROWER THAN 'FOR EVERY INPUT', by the rows' own cells (each row's printed sentence says how): FitsRows: laid · FitsQuiet: laid · FitsSerial: laid · FitsOnly: laid.
  DERIVED. THE GIVEN ROWS OF THIS SEAT. 4 by the template 'for every input the law returns true; each argument reads behind the call as it read before'; 0 by the template 'total and deterministic' (their statements: YtgkfbagclkjilaaGreatDoorTotals.lean).
  GIVEN WITH THE SEED: the statements are not yours to turn. If you find one false, say at which input.
  Laid BY PROGRAM, IN A SANDBOX (cutbox-rows.mjs): the forced cells as the released guide's own fill.sh prints them over the translation c7dd93f96825b18f… (all of the seat's roots in one cut). By AI agents, Wed Nov 11 2026. No macro, syntax, notation, axiom, sorry.
-/
import Derived.Test.YtgkfbagclkjilaaGreatDoorChecked
import GoSem.PinnedTables
import GoSem.Claim
import GoSem.ClaimJoined
import GoSem.ClaimMapViews
import Derived.JoinedTies
import Derived.KernelRfl
namespace Go.Proofs.YtgkfbagclkjilaaGreatDoor
/- THE CELL 'sum', in the pinned program and in every row, IS THE sha256 OF THE DUMP (.gsa) THAT YtgkfbagclkjilaaGreatDoorProg.lean LOADS. Nothing in Lean hashes anything: it is a label: what it is worth is what the hold of that sum in a sandbox is worth. -/
noncomputable def Tryz.pinned : Pinned := { name := "ytgkfbagclkjilaagreatdoor", sum := "c7dd93f96825b18f9293119d52875a931a38830e07b630ca87dffb8f4ad69fd0", checked := Tryz.checked }
namespace Rows
def none {H : Type} : Left H := { results := [], args := [] }

/- WHAT THE LISTED PACKAGE-LEVEL VARIABLES READ AS WHEN THE CALL BEGINS. Each datum BY PROGRAM (the guide's laid-datum.mjs) off the statement by which the dump's own 'gosem.cut.vars' lays the variable. In a bare row this is a premise. The card (YtgkfbagclkjilaaGreatDoorCards.lean) ties it to the program's text. -/
def laid_unicode_utf8_acceptRanges {H : Type} : DataW H := .agg [.agg [.lit (.int .u8 128), .lit (.int .u8 191)], .agg [.lit (.int .u8 160), .lit (.int .u8 191)], .agg [.lit (.int .u8 128), .lit (.int .u8 159)], .agg [.lit (.int .u8 144), .lit (.int .u8 191)], .agg [.lit (.int .u8 128), .lit (.int .u8 143)], .agg [.lit (.int .u8 0), .lit (.int .u8 0)], .agg [.lit (.int .u8 0), .lit (.int .u8 0)], .agg [.lit (.int .u8 0), .lit (.int .u8 0)], .agg [.lit (.int .u8 0), .lit (.int .u8 0)], .agg [.lit (.int .u8 0), .lit (.int .u8 0)], .agg [.lit (.int .u8 0), .lit (.int .u8 0)], .agg [.lit (.int .u8 0), .lit (.int .u8 0)], .agg [.lit (.int .u8 0), .lit (.int .u8 0)], .agg [.lit (.int .u8 0), .lit (.int .u8 0)], .agg [.lit (.int .u8 0), .lit (.int .u8 0)], .agg [.lit (.int .u8 0), .lit (.int .u8 0)]]
/-- One of Go's own tables, pinned by name: the form's constant. -/
def laid_unicode_utf8_first : DataW Unit := Go.Pinned.utf8First

/-- 'pelotonlaw08.FitsRows': WHATEVER THE INPUT: true; the input reads as it did. -/
def fitsRowsSpec : ChangeSpec := { name := "fitsRows", fn := fun _ => fun
  | [d1, d2] => { results := [.lit (.bool true)], args := [d1, d2] }
  | _ => none }
def fitsRowsRow : OpenClaim := { program := "ytgkfbagclkjilaagreatdoor", sum := "c7dd93f96825b18f9293119d52875a931a38830e07b630ca87dffb8f4ad69fd0", func := "peloton/pelotonlaw08.FitsRows", spec := "fitsRows", inPlace := ["internal/bytealg.IndexByteString", "internal/bytealg.IndexString"], unfollowed := true, recurses := true, named := ["unicode/utf8.first", "unicode/utf8.acceptRanges", "internal/bytealg.MaxLen"], plainKeys := false, apart := false, laid := [("unicode/utf8.acceptRanges", laid_unicode_utf8_acceptRanges), ("unicode/utf8.first", laid_unicode_utf8_first)] }
def FitsRowsSaid : Prop := fitsRowsRow.holds Tryz.pinned (OpenSpec.ofChange fitsRowsSpec)

/-- ITS FALSE NEIGHBOUR: 'it returns false'. Refute it at one input. -/
def fitsRowsWrong : ChangeSpec := { name := "fitsRows", fn := fun _ => fun
  | [d1, d2] => { results := [.lit (.bool false)], args := [d1, d2] }
  | _ => none }
def FitsRowsWrongFalsely : Prop := fitsRowsRow.holds Tryz.pinned (OpenSpec.ofChange fitsRowsWrong)

/-- 'pelotonlaw08.FitsQuiet': WHATEVER THE INPUT: true; the input reads as it did. -/
def fitsQuietSpec : ChangeSpec := { name := "fitsQuiet", fn := fun _ => fun
  | [d1, d2] => { results := [.lit (.bool true)], args := [d1, d2] }
  | _ => none }
def fitsQuietRow : OpenClaim := { program := "ytgkfbagclkjilaagreatdoor", sum := "c7dd93f96825b18f9293119d52875a931a38830e07b630ca87dffb8f4ad69fd0", func := "peloton/pelotonlaw08.FitsQuiet", spec := "fitsQuiet", inPlace := ["internal/bytealg.IndexByteString", "internal/bytealg.IndexString"], unfollowed := true, recurses := true, named := ["unicode/utf8.first", "unicode/utf8.acceptRanges", "internal/bytealg.MaxLen"], plainKeys := false, apart := false, laid := [("unicode/utf8.acceptRanges", laid_unicode_utf8_acceptRanges), ("unicode/utf8.first", laid_unicode_utf8_first)] }
def FitsQuietSaid : Prop := fitsQuietRow.holds Tryz.pinned (OpenSpec.ofChange fitsQuietSpec)

/-- ITS FALSE NEIGHBOUR: 'it returns false'. Refute it at one input. -/
def fitsQuietWrong : ChangeSpec := { name := "fitsQuiet", fn := fun _ => fun
  | [d1, d2] => { results := [.lit (.bool false)], args := [d1, d2] }
  | _ => none }
def FitsQuietWrongFalsely : Prop := fitsQuietRow.holds Tryz.pinned (OpenSpec.ofChange fitsQuietWrong)

/-- 'pelotonlaw08.FitsSerial': WHATEVER THE INPUT: true; the input reads as it did. -/
def fitsSerialSpec : ChangeSpec := { name := "fitsSerial", fn := fun _ => fun
  | [d1, d2] => { results := [.lit (.bool true)], args := [d1, d2] }
  | _ => none }
def fitsSerialRow : OpenClaim := { program := "ytgkfbagclkjilaagreatdoor", sum := "c7dd93f96825b18f9293119d52875a931a38830e07b630ca87dffb8f4ad69fd0", func := "peloton/pelotonlaw08.FitsSerial", spec := "fitsSerial", inPlace := ["internal/bytealg.IndexByteString", "internal/bytealg.IndexString"], unfollowed := true, recurses := true, named := ["unicode/utf8.first", "unicode/utf8.acceptRanges", "internal/bytealg.MaxLen"], plainKeys := false, apart := false, laid := [("unicode/utf8.acceptRanges", laid_unicode_utf8_acceptRanges), ("unicode/utf8.first", laid_unicode_utf8_first)] }
def FitsSerialSaid : Prop := fitsSerialRow.holds Tryz.pinned (OpenSpec.ofChange fitsSerialSpec)

/-- ITS FALSE NEIGHBOUR: 'it returns false'. Refute it at one input. -/
def fitsSerialWrong : ChangeSpec := { name := "fitsSerial", fn := fun _ => fun
  | [d1, d2] => { results := [.lit (.bool false)], args := [d1, d2] }
  | _ => none }
def FitsSerialWrongFalsely : Prop := fitsSerialRow.holds Tryz.pinned (OpenSpec.ofChange fitsSerialWrong)

/-- 'pelotonlaw08.FitsOnly': WHATEVER THE INPUT: true; the input reads as it did. -/
def fitsOnlySpec : ChangeSpec := { name := "fitsOnly", fn := fun _ => fun
  | [d1, d2] => { results := [.lit (.bool true)], args := [d1, d2] }
  | _ => none }
def fitsOnlyRow : OpenClaim := { program := "ytgkfbagclkjilaagreatdoor", sum := "c7dd93f96825b18f9293119d52875a931a38830e07b630ca87dffb8f4ad69fd0", func := "peloton/pelotonlaw08.FitsOnly", spec := "fitsOnly", inPlace := ["internal/bytealg.IndexByteString", "internal/bytealg.IndexString"], unfollowed := true, recurses := true, named := ["unicode/utf8.first", "unicode/utf8.acceptRanges", "internal/bytealg.MaxLen"], plainKeys := false, apart := false, laid := [("unicode/utf8.acceptRanges", laid_unicode_utf8_acceptRanges), ("unicode/utf8.first", laid_unicode_utf8_first)] }
def FitsOnlySaid : Prop := fitsOnlyRow.holds Tryz.pinned (OpenSpec.ofChange fitsOnlySpec)

/-- ITS FALSE NEIGHBOUR: 'it returns false'. Refute it at one input. -/
def fitsOnlyWrong : ChangeSpec := { name := "fitsOnly", fn := fun _ => fun
  | [d1, d2] => { results := [.lit (.bool false)], args := [d1, d2] }
  | _ => none }
def FitsOnlyWrongFalsely : Prop := fitsOnlyRow.holds Tryz.pinned (OpenSpec.ofChange fitsOnlyWrong)

/- THE SECOND FORM. 'bulk': how many values and letters a reading holds, each counted each time it is reached (what is shared counts as often as it is met; a slice's spare places count too). A statement '..UptoSaid' is the law's where the arguments, and the package variables that the reading takes, are together of bulk at most 1048576: NARROWER than '..Said'. Prove '..Said' where nothing that the law and all that it calls make is longer than what came in: it says more and counts as full. Else prove '..UptoSaid'. A law counts once. -/
mutual
def uptoBulk {H : Type} : DataW H → Nat
  | .lit (.string bytes) => bytes.length + 1
  | .lit _ => 1
  | .nil => 1
  | .ptr d => uptoBulk d + 1
  | .slice elems spare => uptoBulkAll elems + uptoBulkAll spare + 1
  | .agg parts => uptoBulkAll parts + 1
  | .iface _ d => uptoBulk d + 1
  | .map entries => uptoBulkEntries entries + 1
  | .held _ => 1
def uptoBulkAll {H : Type} : List (DataW H) → Nat
  | [] => 0
  | d :: r => uptoBulk d + uptoBulkAll r
def uptoBulkEntries {H : Type} : List (Lit × DataW H) → Nat
  | [] => 0
  | x :: r => uptoBulkEntry x + uptoBulkEntries r
def uptoBulkEntry {H : Type} : Lit × DataW H → Nat
  | (.string bytes, d) => bytes.length + uptoBulk d + 1
  | (_, d) => uptoBulk d + 1
 end
def uptoSmall : (H : Type) → List (DataW H) → Bool := fun _ ds => decide (uptoBulkAll ds ≤ 1048576)
def OpenSpec.upto (s : _root_.Go.ChangeSpec) : _root_.Go.OpenSpec := { _root_.Go.OpenSpec.ofChange s with cond := some uptoSmall }

/-- 'pelotonlaw08.FitsRows', WHERE WHAT IT READS IS OF BULK AT MOST 1048576: true; the input reads as it did. -/
def fitsRowsUptoRow : OpenClaim := { program := "ytgkfbagclkjilaagreatdoor", sum := "c7dd93f96825b18f9293119d52875a931a38830e07b630ca87dffb8f4ad69fd0", func := "peloton/pelotonlaw08.FitsRows", spec := "fitsRows", inPlace := ["internal/bytealg.IndexByteString", "internal/bytealg.IndexString"], unfollowed := true, recurses := true, named := ["unicode/utf8.first", "unicode/utf8.acceptRanges", "internal/bytealg.MaxLen"], plainKeys := false, apart := false, laid := [("unicode/utf8.acceptRanges", laid_unicode_utf8_acceptRanges), ("unicode/utf8.first", laid_unicode_utf8_first)], narrowed := true }
def FitsRowsUptoSaid : Prop := fitsRowsUptoRow.holds Tryz.pinned (OpenSpec.upto fitsRowsSpec)

/-- 'pelotonlaw08.FitsQuiet', WHERE WHAT IT READS IS OF BULK AT MOST 1048576: true; the input reads as it did. -/
def fitsQuietUptoRow : OpenClaim := { program := "ytgkfbagclkjilaagreatdoor", sum := "c7dd93f96825b18f9293119d52875a931a38830e07b630ca87dffb8f4ad69fd0", func := "peloton/pelotonlaw08.FitsQuiet", spec := "fitsQuiet", inPlace := ["internal/bytealg.IndexByteString", "internal/bytealg.IndexString"], unfollowed := true, recurses := true, named := ["unicode/utf8.first", "unicode/utf8.acceptRanges", "internal/bytealg.MaxLen"], plainKeys := false, apart := false, laid := [("unicode/utf8.acceptRanges", laid_unicode_utf8_acceptRanges), ("unicode/utf8.first", laid_unicode_utf8_first)], narrowed := true }
def FitsQuietUptoSaid : Prop := fitsQuietUptoRow.holds Tryz.pinned (OpenSpec.upto fitsQuietSpec)

/-- 'pelotonlaw08.FitsSerial', WHERE WHAT IT READS IS OF BULK AT MOST 1048576: true; the input reads as it did. -/
def fitsSerialUptoRow : OpenClaim := { program := "ytgkfbagclkjilaagreatdoor", sum := "c7dd93f96825b18f9293119d52875a931a38830e07b630ca87dffb8f4ad69fd0", func := "peloton/pelotonlaw08.FitsSerial", spec := "fitsSerial", inPlace := ["internal/bytealg.IndexByteString", "internal/bytealg.IndexString"], unfollowed := true, recurses := true, named := ["unicode/utf8.first", "unicode/utf8.acceptRanges", "internal/bytealg.MaxLen"], plainKeys := false, apart := false, laid := [("unicode/utf8.acceptRanges", laid_unicode_utf8_acceptRanges), ("unicode/utf8.first", laid_unicode_utf8_first)], narrowed := true }
def FitsSerialUptoSaid : Prop := fitsSerialUptoRow.holds Tryz.pinned (OpenSpec.upto fitsSerialSpec)

/-- 'pelotonlaw08.FitsOnly', WHERE WHAT IT READS IS OF BULK AT MOST 1048576: true; the input reads as it did. -/
def fitsOnlyUptoRow : OpenClaim := { program := "ytgkfbagclkjilaagreatdoor", sum := "c7dd93f96825b18f9293119d52875a931a38830e07b630ca87dffb8f4ad69fd0", func := "peloton/pelotonlaw08.FitsOnly", spec := "fitsOnly", inPlace := ["internal/bytealg.IndexByteString", "internal/bytealg.IndexString"], unfollowed := true, recurses := true, named := ["unicode/utf8.first", "unicode/utf8.acceptRanges", "internal/bytealg.MaxLen"], plainKeys := false, apart := false, laid := [("unicode/utf8.acceptRanges", laid_unicode_utf8_acceptRanges), ("unicode/utf8.first", laid_unicode_utf8_first)], narrowed := true }
def FitsOnlyUptoSaid : Prop := fitsOnlyUptoRow.holds Tryz.pinned (OpenSpec.upto fitsOnlySpec)

end Rows
end Go.Proofs.YtgkfbagclkjilaaGreatDoor
