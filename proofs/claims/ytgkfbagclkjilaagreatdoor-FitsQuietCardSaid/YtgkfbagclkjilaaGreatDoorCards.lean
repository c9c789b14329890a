/-
  DERIVED. GIVEN WITH THE SEED: THE CARDS: each row of YtgkfbagclkjilaaGreatDoorRows.lean that lists a variable, with what it lists TIED to the program's text (the seventh form; the later family's looks); each row that meets fmt, with fmt's text TOLD by the authors' own Lean function (tested against real Go, not proved from fmt's source: count such statements apart). THE CARD IS WHAT COUNTS. Prove the row's statement (the work); the ties are given (YtgkfbagclkjilaaGreatDoorTie.lean); close each card by the builder's one call (the guide's Derived/Test/ToyasCard.lean, 'card_holds'). Laid BY PROGRAM, IN A SANDBOX (cutbox-door.mjs). By AI agents, Wed Nov 11 2026. No macro, syntax, notation, axiom, sorry.
-/
import Derived.Test.YtgkfbagclkjilaaGreatDoorRows
import GoSem.ClaimSeven
namespace Go.Proofs.YtgkfbagclkjilaaGreatDoor
namespace Rows

/-- THE TIED CARD OF 'pelotonlaw08.FitsRows'. -/
def fitsRowsCard : Claim7 := { stood := { row := fitsRowsRow, standIns := [], harness := (true, "4222aaa8cc5950593a817dd769f177cc9fd4f50fe20ef7bf35505f6958b0bbd7"), looks := true }, kinds := [], alts := [], laidByText := true, laidKinds := [.data, .pinned], laidTests := true, laidLooks := .later }
def FitsRowsCardSaid : Prop := Claim7.holds Tryz.pinned (.plain (OpenSpec.ofChange fitsRowsSpec)) fitsRowsCard

/-- THE TIED CARD OF 'pelotonlaw08.FitsQuiet'. -/
def fitsQuietCard : Claim7 := { stood := { row := fitsQuietRow, standIns := [], harness := (true, "4222aaa8cc5950593a817dd769f177cc9fd4f50fe20ef7bf35505f6958b0bbd7"), looks := true }, kinds := [], alts := [], laidByText := true, laidKinds := [.data, .pinned], laidTests := true, laidLooks := .later }
def FitsQuietCardSaid : Prop := Claim7.holds Tryz.pinned (.plain (OpenSpec.ofChange fitsQuietSpec)) fitsQuietCard

/-- THE TIED CARD OF 'pelotonlaw08.FitsSerial'. -/
def fitsSerialCard : Claim7 := { stood := { row := fitsSerialRow, standIns := [], harness := (true, "4222aaa8cc5950593a817dd769f177cc9fd4f50fe20ef7bf35505f6958b0bbd7"), looks := true }, kinds := [], alts := [], laidByText := true, laidKinds := [.data, .pinned], laidTests := true, laidLooks := .later }
def FitsSerialCardSaid : Prop := Claim7.holds Tryz.pinned (.plain (OpenSpec.ofChange fitsSerialSpec)) fitsSerialCard

/-- THE TIED CARD OF 'pelotonlaw08.FitsOnly'. -/
def fitsOnlyCard : Claim7 := { stood := { row := fitsOnlyRow, standIns := [], harness := (true, "4222aaa8cc5950593a817dd769f177cc9fd4f50fe20ef7bf35505f6958b0bbd7"), looks := true }, kinds := [], alts := [], laidByText := true, laidKinds := [.data, .pinned], laidTests := true, laidLooks := .later }
def FitsOnlyCardSaid : Prop := Claim7.holds Tryz.pinned (.plain (OpenSpec.ofChange fitsOnlySpec)) fitsOnlyCard

/-- THE SECOND FORM's CARD OF 'pelotonlaw08.FitsRows'. -/
def fitsRowsUptoCard : Claim7 := { stood := { row := fitsRowsUptoRow, standIns := [], harness := (true, "4222aaa8cc5950593a817dd769f177cc9fd4f50fe20ef7bf35505f6958b0bbd7"), looks := true }, kinds := [], alts := [], laidByText := true, laidKinds := [.data, .pinned], laidTests := true, laidLooks := .later }
def FitsRowsUptoCardSaid : Prop := Claim7.holds Tryz.pinned (.plain (OpenSpec.upto fitsRowsSpec)) fitsRowsUptoCard

/-- THE SECOND FORM's CARD OF 'pelotonlaw08.FitsQuiet'. -/
def fitsQuietUptoCard : Claim7 := { stood := { row := fitsQuietUptoRow, standIns := [], harness := (true, "4222aaa8cc5950593a817dd769f177cc9fd4f50fe20ef7bf35505f6958b0bbd7"), looks := true }, kinds := [], alts := [], laidByText := true, laidKinds := [.data, .pinned], laidTests := true, laidLooks := .later }
def FitsQuietUptoCardSaid : Prop := Claim7.holds Tryz.pinned (.plain (OpenSpec.upto fitsQuietSpec)) fitsQuietUptoCard

/-- THE SECOND FORM's CARD OF 'pelotonlaw08.FitsSerial'. -/
def fitsSerialUptoCard : Claim7 := { stood := { row := fitsSerialUptoRow, standIns := [], harness := (true, "4222aaa8cc5950593a817dd769f177cc9fd4f50fe20ef7bf35505f6958b0bbd7"), looks := true }, kinds := [], alts := [], laidByText := true, laidKinds := [.data, .pinned], laidTests := true, laidLooks := .later }
def FitsSerialUptoCardSaid : Prop := Claim7.holds Tryz.pinned (.plain (OpenSpec.upto fitsSerialSpec)) fitsSerialUptoCard

/-- THE SECOND FORM's CARD OF 'pelotonlaw08.FitsOnly'. -/
def fitsOnlyUptoCard : Claim7 := { stood := { row := fitsOnlyUptoRow, standIns := [], harness := (true, "4222aaa8cc5950593a817dd769f177cc9fd4f50fe20ef7bf35505f6958b0bbd7"), looks := true }, kinds := [], alts := [], laidByText := true, laidKinds := [.data, .pinned], laidTests := true, laidLooks := .later }
def FitsOnlyUptoCardSaid : Prop := Claim7.holds Tryz.pinned (.plain (OpenSpec.upto fitsOnlySpec)) fitsOnlyUptoCard
end Rows
end Go.Proofs.YtgkfbagclkjilaaGreatDoor
