/-
  DERIVED. GIVEN WITH THE SEED: THE CARDS: each row of YtgkfbagclkjilaaDoorRows.lean that lists a variable, with what it lists TIED to the program's text (the seventh form; the later family's looks); each row that meets fmt, with fmt's text TOLD by the authors' own Lean function (tested against real Go, not proved from fmt's source: count such statements apart). THE CARD IS WHAT COUNTS. Prove the row's statement (the work); the ties are given (YtgkfbagclkjilaaDoorTie.lean); close each card by the builder's one call (the guide's Derived/Test/ToyasCard.lean, 'card_holds'). Laid BY PROGRAM, IN A SANDBOX (cutbox-door.mjs). By AI agents, Wed Nov 11 2026. No macro, syntax, notation, axiom, sorry.
-/
import Derived.Test.YtgkfbagclkjilaaDoorRows
import GoSem.ClaimSeven
namespace Go.Proofs.YtgkfbagclkjilaaDoor
namespace Rows

/-- THE TIED CARD OF 'pelotonlaw08.FitsMore'. -/
def fitsMoreCard : Claim7 := { stood := { row := fitsMoreRow, standIns := [], harness := (true, "6b56feb0bcf172139bb4eff530e8d0775845d46760fe1ff036962559798d2e7f"), looks := false }, kinds := [], alts := [], laidByText := true, laidKinds := [.data, .pinned], laidTests := true, laidLooks := .later }
def FitsMoreCardSaid : Prop := Claim7.holds Tryd.pinned (.plain (OpenSpec.ofChange fitsMoreSpec)) fitsMoreCard

/-- THE TIED CARD OF 'pelotonlaw08.FitsTurned'. -/
def fitsTurnedCard : Claim7 := { stood := { row := fitsTurnedRow, standIns := [], harness := (true, "6b56feb0bcf172139bb4eff530e8d0775845d46760fe1ff036962559798d2e7f"), looks := false }, kinds := [], alts := [], laidByText := true, laidKinds := [.data, .pinned], laidTests := true, laidLooks := .later }
def FitsTurnedCardSaid : Prop := Claim7.holds Tryd.pinned (.plain (OpenSpec.ofChange fitsTurnedSpec)) fitsTurnedCard

/-- THE TIED CARD OF 'pelotonlaw08.FitsBegins'. -/
def fitsBeginsCard : Claim7 := { stood := { row := fitsBeginsRow, standIns := [], harness := (true, "6b56feb0bcf172139bb4eff530e8d0775845d46760fe1ff036962559798d2e7f"), looks := false }, kinds := [], alts := [], laidByText := true, laidKinds := [.data, .pinned], laidTests := true, laidLooks := .later }
def FitsBeginsCardSaid : Prop := Claim7.holds Tryd.pinned (.plain (OpenSpec.ofChange fitsBeginsSpec)) fitsBeginsCard

/-- THE SECOND FORM's CARD OF 'pelotonlaw08.FitsMore'. -/
def fitsMoreUptoCard : Claim7 := { stood := { row := fitsMoreUptoRow, standIns := [], harness := (true, "6b56feb0bcf172139bb4eff530e8d0775845d46760fe1ff036962559798d2e7f"), looks := false }, kinds := [], alts := [], laidByText := true, laidKinds := [.data, .pinned], laidTests := true, laidLooks := .later }
def FitsMoreUptoCardSaid : Prop := Claim7.holds Tryd.pinned (.plain (OpenSpec.upto fitsMoreSpec)) fitsMoreUptoCard

/-- THE SECOND FORM's CARD OF 'pelotonlaw08.FitsTurned'. -/
def fitsTurnedUptoCard : Claim7 := { stood := { row := fitsTurnedUptoRow, standIns := [], harness := (true, "6b56feb0bcf172139bb4eff530e8d0775845d46760fe1ff036962559798d2e7f"), looks := false }, kinds := [], alts := [], laidByText := true, laidKinds := [.data, .pinned], laidTests := true, laidLooks := .later }
def FitsTurnedUptoCardSaid : Prop := Claim7.holds Tryd.pinned (.plain (OpenSpec.upto fitsTurnedSpec)) fitsTurnedUptoCard

/-- THE SECOND FORM's CARD OF 'pelotonlaw08.FitsBegins'. -/
def fitsBeginsUptoCard : Claim7 := { stood := { row := fitsBeginsUptoRow, standIns := [], harness := (true, "6b56feb0bcf172139bb4eff530e8d0775845d46760fe1ff036962559798d2e7f"), looks := false }, kinds := [], alts := [], laidByText := true, laidKinds := [.data, .pinned], laidTests := true, laidLooks := .later }
def FitsBeginsUptoCardSaid : Prop := Claim7.holds Tryd.pinned (.plain (OpenSpec.upto fitsBeginsSpec)) fitsBeginsUptoCard
end Rows
end Go.Proofs.YtgkfbagclkjilaaDoor
