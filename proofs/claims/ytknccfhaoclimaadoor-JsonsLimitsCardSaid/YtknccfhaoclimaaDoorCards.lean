/-
  DERIVED. GIVEN WITH THE SEED: THE CARDS: each row of YtknccfhaoclimaaDoorRows.lean that lists a variable, with what it lists TIED to the program's text (the seventh form; the later family's looks); each row that meets fmt, with fmt's text TOLD by the authors' own Lean function (tested against real Go, not proved from fmt's source: count such statements apart). THE CARD IS WHAT COUNTS. Prove the row's statement (the work); the ties are given (YtknccfhaoclimaaDoorTie.lean); close each card by the builder's one call (the guide's Derived/Test/ToyasCard.lean, 'card_holds'). Laid BY PROGRAM, IN A SANDBOX (cutbox-door.mjs). By AI agents, Wed Nov 11 2026. No macro, syntax, notation, axiom, sorry.
-/
import Derived.Test.YtknccfhaoclimaaDoorRows
import GoSem.ClaimSeven
namespace Go.Proofs.YtknccfhaoclimaaDoor
namespace Rows

/-- THE TIED CARD OF 'latchkeylaw05.JsonsNumbers'. -/
def jsonsNumbersCard : Claim7 := { stood := { row := jsonsNumbersRow, standIns := [], harness := (true, "c939378bc9137c91dedb0f2952db6420cdbe57a58e88edab1843d61b6d3556c5"), looks := false }, kinds := [], alts := [], laidByText := true, laidKinds := [.data, .pinned], laidTests := true, laidLooks := .later }
def JsonsNumbersCardSaid : Prop := Claim7.holds Tryd.pinned (.plain (OpenSpec.ofChange jsonsNumbersSpec)) jsonsNumbersCard

/-- THE TIED CARD OF 'latchkeylaw05.JsonsLimits'. -/
def jsonsLimitsCard : Claim7 := { stood := { row := jsonsLimitsRow, standIns := [], harness := (true, "c939378bc9137c91dedb0f2952db6420cdbe57a58e88edab1843d61b6d3556c5"), looks := false }, kinds := [], alts := [], laidByText := true, laidKinds := [.data, .pinned], laidTests := true, laidLooks := .later }
def JsonsLimitsCardSaid : Prop := Claim7.holds Tryd.pinned (.plain (OpenSpec.ofChange jsonsLimitsSpec)) jsonsLimitsCard

/-- THE TIED CARD OF 'latchkeylaw05.JsonsJoins'. -/
def jsonsJoinsCard : Claim7 := { stood := { row := jsonsJoinsRow, standIns := [], harness := (true, "c939378bc9137c91dedb0f2952db6420cdbe57a58e88edab1843d61b6d3556c5"), looks := false }, kinds := [], alts := [], laidByText := true, laidKinds := [.data, .pinned], laidTests := true, laidLooks := .later }
def JsonsJoinsCardSaid : Prop := Claim7.holds Tryd.pinned (.plain (OpenSpec.ofChange jsonsJoinsSpec)) jsonsJoinsCard

/-- THE TIED CARD OF 'latchkeylaw05.JsonsGets'. -/
def jsonsGetsCard : Claim7 := { stood := { row := jsonsGetsRow, standIns := [], harness := (true, "c939378bc9137c91dedb0f2952db6420cdbe57a58e88edab1843d61b6d3556c5"), looks := false }, kinds := [], alts := [], laidByText := true, laidKinds := [.data, .pinned], laidTests := true, laidLooks := .later }
def JsonsGetsCardSaid : Prop := Claim7.holds Tryd.pinned (.plain (OpenSpec.ofChange jsonsGetsSpec)) jsonsGetsCard

/-- THE SECOND FORM's CARD OF 'latchkeylaw05.JsonsNumbers'. -/
def jsonsNumbersUptoCard : Claim7 := { stood := { row := jsonsNumbersUptoRow, standIns := [], harness := (true, "c939378bc9137c91dedb0f2952db6420cdbe57a58e88edab1843d61b6d3556c5"), looks := false }, kinds := [], alts := [], laidByText := true, laidKinds := [.data, .pinned], laidTests := true, laidLooks := .later }
def JsonsNumbersUptoCardSaid : Prop := Claim7.holds Tryd.pinned (.plain (OpenSpec.upto jsonsNumbersSpec)) jsonsNumbersUptoCard

/-- THE SECOND FORM's CARD OF 'latchkeylaw05.JsonsLimits'. -/
def jsonsLimitsUptoCard : Claim7 := { stood := { row := jsonsLimitsUptoRow, standIns := [], harness := (true, "c939378bc9137c91dedb0f2952db6420cdbe57a58e88edab1843d61b6d3556c5"), looks := false }, kinds := [], alts := [], laidByText := true, laidKinds := [.data, .pinned], laidTests := true, laidLooks := .later }
def JsonsLimitsUptoCardSaid : Prop := Claim7.holds Tryd.pinned (.plain (OpenSpec.upto jsonsLimitsSpec)) jsonsLimitsUptoCard

/-- THE SECOND FORM's CARD OF 'latchkeylaw05.JsonsJoins'. -/
def jsonsJoinsUptoCard : Claim7 := { stood := { row := jsonsJoinsUptoRow, standIns := [], harness := (true, "c939378bc9137c91dedb0f2952db6420cdbe57a58e88edab1843d61b6d3556c5"), looks := false }, kinds := [], alts := [], laidByText := true, laidKinds := [.data, .pinned], laidTests := true, laidLooks := .later }
def JsonsJoinsUptoCardSaid : Prop := Claim7.holds Tryd.pinned (.plain (OpenSpec.upto jsonsJoinsSpec)) jsonsJoinsUptoCard

/-- THE SECOND FORM's CARD OF 'latchkeylaw05.JsonsGets'. -/
def jsonsGetsUptoCard : Claim7 := { stood := { row := jsonsGetsUptoRow, standIns := [], harness := (true, "c939378bc9137c91dedb0f2952db6420cdbe57a58e88edab1843d61b6d3556c5"), looks := false }, kinds := [], alts := [], laidByText := true, laidKinds := [.data, .pinned], laidTests := true, laidLooks := .later }
def JsonsGetsUptoCardSaid : Prop := Claim7.holds Tryd.pinned (.plain (OpenSpec.upto jsonsGetsSpec)) jsonsGetsUptoCard
end Rows
end Go.Proofs.YtknccfhaoclimaaDoor
