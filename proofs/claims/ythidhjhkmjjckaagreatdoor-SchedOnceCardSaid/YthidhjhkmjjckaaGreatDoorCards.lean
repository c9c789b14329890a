/-
  DERIVED. GIVEN WITH THE SEED: THE CARDS: each row of YthidhjhkmjjckaaGreatDoorRows.lean that lists a variable, with what it lists TIED to the program's text (the seventh form; the later family's looks); each row that meets fmt, with fmt's text TOLD by the authors' own Lean function (tested against real Go, not proved from fmt's source: count such statements apart). THE CARD IS WHAT COUNTS. Prove the row's statement (the work); the ties are given (YthidhjhkmjjckaaGreatDoorTie.lean); close each card by the builder's one call (the guide's Derived/Test/ToyasCard.lean, 'card_holds'). Laid BY PROGRAM, IN A SANDBOX (cutbox-door.mjs). By AI agents, Wed Nov 11 2026. No macro, syntax, notation, axiom, sorry.
-/
import Derived.Test.YthidhjhkmjjckaaGreatDoorRows
import GoSem.ClaimSeven
namespace Go.Proofs.YthidhjhkmjjckaaGreatDoor
namespace Rows

/-- THE TIED CARD OF 'pelotonlaw19.SchedFits'. -/
def schedFitsCard : Claim7 := { stood := { row := schedFitsRow, standIns := [], harness := (true, "a6316aa557480c4d2667bb7ae239cfd0e13384b31c82e07bca6cce199cb67356"), looks := true }, kinds := [], alts := [], laidByText := true, laidKinds := [.data, .data, .pinned], laidTests := true, laidLooks := .later }
def SchedFitsCardSaid : Prop := Claim7.holds Tryz.pinned (.plain (OpenSpec.ofChange schedFitsSpec)) schedFitsCard

/-- THE TIED CARD OF 'pelotonlaw19.SchedStops'. -/
def schedStopsCard : Claim7 := { stood := { row := schedStopsRow, standIns := [], harness := (true, "a6316aa557480c4d2667bb7ae239cfd0e13384b31c82e07bca6cce199cb67356"), looks := true }, kinds := [], alts := [], laidByText := true, laidKinds := [.data, .data, .pinned], laidTests := true, laidLooks := .later }
def SchedStopsCardSaid : Prop := Claim7.holds Tryz.pinned (.plain (OpenSpec.ofChange schedStopsSpec)) schedStopsCard

/-- THE TIED CARD OF 'pelotonlaw19.SchedMay'. -/
def schedMayCard : Claim7 := { stood := { row := schedMayRow, standIns := [], harness := (true, "a6316aa557480c4d2667bb7ae239cfd0e13384b31c82e07bca6cce199cb67356"), looks := true }, kinds := [], alts := [], laidByText := true, laidKinds := [.data], laidTests := true, laidLooks := .later }
def SchedMayCardSaid : Prop := Claim7.holds Tryz.pinned (.plain (OpenSpec.ofChange schedMaySpec)) schedMayCard

/-- THE TIED CARD OF 'pelotonlaw19.SchedAsked'. -/
def schedAskedCard : Claim7 := { stood := { row := schedAskedRow, standIns := [], harness := (true, "a6316aa557480c4d2667bb7ae239cfd0e13384b31c82e07bca6cce199cb67356"), looks := true }, kinds := [], alts := [], laidByText := true, laidKinds := [.data], laidTests := true, laidLooks := .later }
def SchedAskedCardSaid : Prop := Claim7.holds Tryz.pinned (.plain (OpenSpec.ofChange schedAskedSpec)) schedAskedCard

/-- THE TIED CARD OF 'pelotonlaw19.SchedSteps'. -/
def schedStepsCard : Claim7 := { stood := { row := schedStepsRow, standIns := [], harness := (true, "a6316aa557480c4d2667bb7ae239cfd0e13384b31c82e07bca6cce199cb67356"), looks := true }, kinds := [], alts := [], laidByText := true, laidKinds := [.data], laidTests := true, laidLooks := .later }
def SchedStepsCardSaid : Prop := Claim7.holds Tryz.pinned (.plain (OpenSpec.ofChange schedStepsSpec)) schedStepsCard

/-- THE TIED CARD OF 'pelotonlaw19.SchedSteals'. -/
def schedStealsCard : Claim7 := { stood := { row := schedStealsRow, standIns := [], harness := (true, "a6316aa557480c4d2667bb7ae239cfd0e13384b31c82e07bca6cce199cb67356"), looks := true }, kinds := [], alts := [], laidByText := true, laidKinds := [.data], laidTests := true, laidLooks := .later }
def SchedStealsCardSaid : Prop := Claim7.holds Tryz.pinned (.plain (OpenSpec.ofChange schedStealsSpec)) schedStealsCard

/-- THE TIED CARD OF 'pelotonlaw19.SchedCloses'. -/
def schedClosesCard : Claim7 := { stood := { row := schedClosesRow, standIns := [], harness := (true, "a6316aa557480c4d2667bb7ae239cfd0e13384b31c82e07bca6cce199cb67356"), looks := true }, kinds := [], alts := [], laidByText := true, laidKinds := [.data], laidTests := true, laidLooks := .later }
def SchedClosesCardSaid : Prop := Claim7.holds Tryz.pinned (.plain (OpenSpec.ofChange schedClosesSpec)) schedClosesCard

/-- THE TIED CARD OF 'pelotonlaw19.SchedHolds'. -/
def schedHoldsCard : Claim7 := { stood := { row := schedHoldsRow, standIns := [], harness := (true, "a6316aa557480c4d2667bb7ae239cfd0e13384b31c82e07bca6cce199cb67356"), looks := true }, kinds := [], alts := [], laidByText := true, laidKinds := [.data], laidTests := true, laidLooks := .later }
def SchedHoldsCardSaid : Prop := Claim7.holds Tryz.pinned (.plain (OpenSpec.ofChange schedHoldsSpec)) schedHoldsCard

/-- THE TIED CARD OF 'pelotonlaw19.SchedPasses'. -/
def schedPassesCard : Claim7 := { stood := { row := schedPassesRow, standIns := [], harness := (true, "a6316aa557480c4d2667bb7ae239cfd0e13384b31c82e07bca6cce199cb67356"), looks := true }, kinds := [], alts := [], laidByText := true, laidKinds := [.data], laidTests := true, laidLooks := .later }
def SchedPassesCardSaid : Prop := Claim7.holds Tryz.pinned (.plain (OpenSpec.ofChange schedPassesSpec)) schedPassesCard

/-- THE TIED CARD OF 'pelotonlaw19.SchedBegins'. -/
def schedBeginsCard : Claim7 := { stood := { row := schedBeginsRow, standIns := [], harness := (true, "a6316aa557480c4d2667bb7ae239cfd0e13384b31c82e07bca6cce199cb67356"), looks := true }, kinds := [], alts := [], laidByText := true, laidKinds := [.data], laidTests := true, laidLooks := .later }
def SchedBeginsCardSaid : Prop := Claim7.holds Tryz.pinned (.plain (OpenSpec.ofChange schedBeginsSpec)) schedBeginsCard

/-- THE TIED CARD OF 'pelotonlaw19.SchedNil'. -/
def schedNilCard : Claim7 := { stood := { row := schedNilRow, standIns := [], harness := (true, "a6316aa557480c4d2667bb7ae239cfd0e13384b31c82e07bca6cce199cb67356"), looks := true }, kinds := [], alts := [], laidByText := true, laidKinds := [.data], laidTests := true, laidLooks := .later }
def SchedNilCardSaid : Prop := Claim7.holds Tryz.pinned (.plain (OpenSpec.ofChange schedNilSpec)) schedNilCard

/-- THE TIED CARD OF 'pelotonlaw19.SchedBound'. -/
def schedBoundCard : Claim7 := { stood := { row := schedBoundRow, standIns := [], harness := (true, "a6316aa557480c4d2667bb7ae239cfd0e13384b31c82e07bca6cce199cb67356"), looks := true }, kinds := [], alts := [], laidByText := true, laidKinds := [.data], laidTests := true, laidLooks := .later }
def SchedBoundCardSaid : Prop := Claim7.holds Tryz.pinned (.plain (OpenSpec.ofChange schedBoundSpec)) schedBoundCard

/-- THE TIED CARD OF 'pelotonlaw19.SchedAlone'. -/
def schedAloneCard : Claim7 := { stood := { row := schedAloneRow, standIns := [], harness := (true, "a6316aa557480c4d2667bb7ae239cfd0e13384b31c82e07bca6cce199cb67356"), looks := true }, kinds := [], alts := [], laidByText := true, laidKinds := [.data], laidTests := true, laidLooks := .later }
def SchedAloneCardSaid : Prop := Claim7.holds Tryz.pinned (.plain (OpenSpec.ofChange schedAloneSpec)) schedAloneCard

/-- THE TIED CARD OF 'pelotonlaw19.SchedSerial'. -/
def schedSerialCard : Claim7 := { stood := { row := schedSerialRow, standIns := [], harness := (true, "a6316aa557480c4d2667bb7ae239cfd0e13384b31c82e07bca6cce199cb67356"), looks := true }, kinds := [], alts := [], laidByText := true, laidKinds := [.data], laidTests := true, laidLooks := .later }
def SchedSerialCardSaid : Prop := Claim7.holds Tryz.pinned (.plain (OpenSpec.ofChange schedSerialSpec)) schedSerialCard

/-- THE TIED CARD OF 'pelotonlaw19.SchedOnce'. -/
def schedOnceCard : Claim7 := { stood := { row := schedOnceRow, standIns := [], harness := (true, "a6316aa557480c4d2667bb7ae239cfd0e13384b31c82e07bca6cce199cb67356"), looks := true }, kinds := [], alts := [], laidByText := true, laidKinds := [.data, .data, .pinned], laidTests := true, laidLooks := .later }
def SchedOnceCardSaid : Prop := Claim7.holds Tryz.pinned (.plain (OpenSpec.ofChange schedOnceSpec)) schedOnceCard

/-- THE TIED CARD OF 'pelotonlaw19.SchedHalts'. -/
def schedHaltsCard : Claim7 := { stood := { row := schedHaltsRow, standIns := [], harness := (true, "a6316aa557480c4d2667bb7ae239cfd0e13384b31c82e07bca6cce199cb67356"), looks := true }, kinds := [], alts := [], laidByText := true, laidKinds := [.data, .data, .pinned], laidTests := true, laidLooks := .later }
def SchedHaltsCardSaid : Prop := Claim7.holds Tryz.pinned (.plain (OpenSpec.ofChange schedHaltsSpec)) schedHaltsCard

/-- THE SECOND FORM's CARD OF 'pelotonlaw19.SchedFits'. -/
def schedFitsUptoCard : Claim7 := { stood := { row := schedFitsUptoRow, standIns := [], harness := (true, "a6316aa557480c4d2667bb7ae239cfd0e13384b31c82e07bca6cce199cb67356"), looks := true }, kinds := [], alts := [], laidByText := true, laidKinds := [.data, .data, .pinned], laidTests := true, laidLooks := .later }
def SchedFitsUptoCardSaid : Prop := Claim7.holds Tryz.pinned (.plain (OpenSpec.upto schedFitsSpec)) schedFitsUptoCard

/-- THE SECOND FORM's CARD OF 'pelotonlaw19.SchedStops'. -/
def schedStopsUptoCard : Claim7 := { stood := { row := schedStopsUptoRow, standIns := [], harness := (true, "a6316aa557480c4d2667bb7ae239cfd0e13384b31c82e07bca6cce199cb67356"), looks := true }, kinds := [], alts := [], laidByText := true, laidKinds := [.data, .data, .pinned], laidTests := true, laidLooks := .later }
def SchedStopsUptoCardSaid : Prop := Claim7.holds Tryz.pinned (.plain (OpenSpec.upto schedStopsSpec)) schedStopsUptoCard

/-- THE SECOND FORM's CARD OF 'pelotonlaw19.SchedMay'. -/
def schedMayUptoCard : Claim7 := { stood := { row := schedMayUptoRow, standIns := [], harness := (true, "a6316aa557480c4d2667bb7ae239cfd0e13384b31c82e07bca6cce199cb67356"), looks := true }, kinds := [], alts := [], laidByText := true, laidKinds := [.data], laidTests := true, laidLooks := .later }
def SchedMayUptoCardSaid : Prop := Claim7.holds Tryz.pinned (.plain (OpenSpec.upto schedMaySpec)) schedMayUptoCard

/-- THE SECOND FORM's CARD OF 'pelotonlaw19.SchedAsked'. -/
def schedAskedUptoCard : Claim7 := { stood := { row := schedAskedUptoRow, standIns := [], harness := (true, "a6316aa557480c4d2667bb7ae239cfd0e13384b31c82e07bca6cce199cb67356"), looks := true }, kinds := [], alts := [], laidByText := true, laidKinds := [.data], laidTests := true, laidLooks := .later }
def SchedAskedUptoCardSaid : Prop := Claim7.holds Tryz.pinned (.plain (OpenSpec.upto schedAskedSpec)) schedAskedUptoCard

/-- THE SECOND FORM's CARD OF 'pelotonlaw19.SchedSteps'. -/
def schedStepsUptoCard : Claim7 := { stood := { row := schedStepsUptoRow, standIns := [], harness := (true, "a6316aa557480c4d2667bb7ae239cfd0e13384b31c82e07bca6cce199cb67356"), looks := true }, kinds := [], alts := [], laidByText := true, laidKinds := [.data], laidTests := true, laidLooks := .later }
def SchedStepsUptoCardSaid : Prop := Claim7.holds Tryz.pinned (.plain (OpenSpec.upto schedStepsSpec)) schedStepsUptoCard

/-- THE SECOND FORM's CARD OF 'pelotonlaw19.SchedSteals'. -/
def schedStealsUptoCard : Claim7 := { stood := { row := schedStealsUptoRow, standIns := [], harness := (true, "a6316aa557480c4d2667bb7ae239cfd0e13384b31c82e07bca6cce199cb67356"), looks := true }, kinds := [], alts := [], laidByText := true, laidKinds := [.data], laidTests := true, laidLooks := .later }
def SchedStealsUptoCardSaid : Prop := Claim7.holds Tryz.pinned (.plain (OpenSpec.upto schedStealsSpec)) schedStealsUptoCard

/-- THE SECOND FORM's CARD OF 'pelotonlaw19.SchedCloses'. -/
def schedClosesUptoCard : Claim7 := { stood := { row := schedClosesUptoRow, standIns := [], harness := (true, "a6316aa557480c4d2667bb7ae239cfd0e13384b31c82e07bca6cce199cb67356"), looks := true }, kinds := [], alts := [], laidByText := true, laidKinds := [.data], laidTests := true, laidLooks := .later }
def SchedClosesUptoCardSaid : Prop := Claim7.holds Tryz.pinned (.plain (OpenSpec.upto schedClosesSpec)) schedClosesUptoCard

/-- THE SECOND FORM's CARD OF 'pelotonlaw19.SchedHolds'. -/
def schedHoldsUptoCard : Claim7 := { stood := { row := schedHoldsUptoRow, standIns := [], harness := (true, "a6316aa557480c4d2667bb7ae239cfd0e13384b31c82e07bca6cce199cb67356"), looks := true }, kinds := [], alts := [], laidByText := true, laidKinds := [.data], laidTests := true, laidLooks := .later }
def SchedHoldsUptoCardSaid : Prop := Claim7.holds Tryz.pinned (.plain (OpenSpec.upto schedHoldsSpec)) schedHoldsUptoCard

/-- THE SECOND FORM's CARD OF 'pelotonlaw19.SchedPasses'. -/
def schedPassesUptoCard : Claim7 := { stood := { row := schedPassesUptoRow, standIns := [], harness := (true, "a6316aa557480c4d2667bb7ae239cfd0e13384b31c82e07bca6cce199cb67356"), looks := true }, kinds := [], alts := [], laidByText := true, laidKinds := [.data], laidTests := true, laidLooks := .later }
def SchedPassesUptoCardSaid : Prop := Claim7.holds Tryz.pinned (.plain (OpenSpec.upto schedPassesSpec)) schedPassesUptoCard

/-- THE SECOND FORM's CARD OF 'pelotonlaw19.SchedBegins'. -/
def schedBeginsUptoCard : Claim7 := { stood := { row := schedBeginsUptoRow, standIns := [], harness := (true, "a6316aa557480c4d2667bb7ae239cfd0e13384b31c82e07bca6cce199cb67356"), looks := true }, kinds := [], alts := [], laidByText := true, laidKinds := [.data], laidTests := true, laidLooks := .later }
def SchedBeginsUptoCardSaid : Prop := Claim7.holds Tryz.pinned (.plain (OpenSpec.upto schedBeginsSpec)) schedBeginsUptoCard

/-- THE SECOND FORM's CARD OF 'pelotonlaw19.SchedNil'. -/
def schedNilUptoCard : Claim7 := { stood := { row := schedNilUptoRow, standIns := [], harness := (true, "a6316aa557480c4d2667bb7ae239cfd0e13384b31c82e07bca6cce199cb67356"), looks := true }, kinds := [], alts := [], laidByText := true, laidKinds := [.data], laidTests := true, laidLooks := .later }
def SchedNilUptoCardSaid : Prop := Claim7.holds Tryz.pinned (.plain (OpenSpec.upto schedNilSpec)) schedNilUptoCard

/-- THE SECOND FORM's CARD OF 'pelotonlaw19.SchedBound'. -/
def schedBoundUptoCard : Claim7 := { stood := { row := schedBoundUptoRow, standIns := [], harness := (true, "a6316aa557480c4d2667bb7ae239cfd0e13384b31c82e07bca6cce199cb67356"), looks := true }, kinds := [], alts := [], laidByText := true, laidKinds := [.data], laidTests := true, laidLooks := .later }
def SchedBoundUptoCardSaid : Prop := Claim7.holds Tryz.pinned (.plain (OpenSpec.upto schedBoundSpec)) schedBoundUptoCard

/-- THE SECOND FORM's CARD OF 'pelotonlaw19.SchedAlone'. -/
def schedAloneUptoCard : Claim7 := { stood := { row := schedAloneUptoRow, standIns := [], harness := (true, "a6316aa557480c4d2667bb7ae239cfd0e13384b31c82e07bca6cce199cb67356"), looks := true }, kinds := [], alts := [], laidByText := true, laidKinds := [.data], laidTests := true, laidLooks := .later }
def SchedAloneUptoCardSaid : Prop := Claim7.holds Tryz.pinned (.plain (OpenSpec.upto schedAloneSpec)) schedAloneUptoCard

/-- THE SECOND FORM's CARD OF 'pelotonlaw19.SchedSerial'. -/
def schedSerialUptoCard : Claim7 := { stood := { row := schedSerialUptoRow, standIns := [], harness := (true, "a6316aa557480c4d2667bb7ae239cfd0e13384b31c82e07bca6cce199cb67356"), looks := true }, kinds := [], alts := [], laidByText := true, laidKinds := [.data], laidTests := true, laidLooks := .later }
def SchedSerialUptoCardSaid : Prop := Claim7.holds Tryz.pinned (.plain (OpenSpec.upto schedSerialSpec)) schedSerialUptoCard

/-- THE SECOND FORM's CARD OF 'pelotonlaw19.SchedOnce'. -/
def schedOnceUptoCard : Claim7 := { stood := { row := schedOnceUptoRow, standIns := [], harness := (true, "a6316aa557480c4d2667bb7ae239cfd0e13384b31c82e07bca6cce199cb67356"), looks := true }, kinds := [], alts := [], laidByText := true, laidKinds := [.data, .data, .pinned], laidTests := true, laidLooks := .later }
def SchedOnceUptoCardSaid : Prop := Claim7.holds Tryz.pinned (.plain (OpenSpec.upto schedOnceSpec)) schedOnceUptoCard

/-- THE SECOND FORM's CARD OF 'pelotonlaw19.SchedHalts'. -/
def schedHaltsUptoCard : Claim7 := { stood := { row := schedHaltsUptoRow, standIns := [], harness := (true, "a6316aa557480c4d2667bb7ae239cfd0e13384b31c82e07bca6cce199cb67356"), looks := true }, kinds := [], alts := [], laidByText := true, laidKinds := [.data, .data, .pinned], laidTests := true, laidLooks := .later }
def SchedHaltsUptoCardSaid : Prop := Claim7.holds Tryz.pinned (.plain (OpenSpec.upto schedHaltsSpec)) schedHaltsUptoCard
end Rows
end Go.Proofs.YthidhjhkmjjckaaGreatDoor
