/-
  DERIVED. GIVEN WITH THE SEED: THE CARDS: each row of YtimomihjghefdaaDoorRows.lean that lists a variable, with what it lists TIED to the program's text (the seventh form; the later family's looks); each row that meets fmt, with fmt's text TOLD by the authors' own Lean function (tested against real Go, not proved from fmt's source: count such statements apart). THE CARD IS WHAT COUNTS. Prove the row's statement (the work); the ties are given (YtimomihjghefdaaDoorTie.lean); close each card by the builder's one call (the guide's Derived/Test/ToyasCard.lean, 'card_holds'). Laid BY PROGRAM, IN A SANDBOX (cutbox-door.mjs). By AI agents, Wed Nov 11 2026. No macro, syntax, notation, axiom, sorry.
-/
import Derived.Test.YtimomihjghefdaaDoorRows
import GoSem.ClaimSeven
namespace Go.Proofs.YtimomihjghefdaaDoor
namespace Rows

/-- THE TIED CARD OF 'winnowerlaw22.IntakeTakes'. -/
def intakeTakesCard : Claim7 := { stood := { row := intakeTakesRow, standIns := [], harness := (true, "828aa93492554e049e5d168eaad904db19ac8fa8a5682f31375385fc36d33929"), looks := true }, kinds := [], alts := [], laidByText := true, laidKinds := [.data, .handle, .pinned], laidTests := true, laidLooks := .later }
def IntakeTakesCardSaid : Prop := Claim7.holds Tryd.pinned (.plain (OpenSpec.ofChange intakeTakesSpec)) intakeTakesCard

/-- THE TIED CARD OF 'winnowerlaw22.IntakeAlone'. -/
def intakeAloneCard : Claim7 := { stood := { row := intakeAloneRow, standIns := [], harness := (true, "828aa93492554e049e5d168eaad904db19ac8fa8a5682f31375385fc36d33929"), looks := true }, kinds := [], alts := [], laidByText := true, laidKinds := [.data, .handle, .pinned], laidTests := true, laidLooks := .later }
def IntakeAloneCardSaid : Prop := Claim7.holds Tryd.pinned (.plain (OpenSpec.ofChange intakeAloneSpec)) intakeAloneCard

/-- THE SECOND FORM's CARD OF 'winnowerlaw22.IntakeTakes'. -/
def intakeTakesUptoCard : Claim7 := { stood := { row := intakeTakesUptoRow, standIns := [], harness := (true, "828aa93492554e049e5d168eaad904db19ac8fa8a5682f31375385fc36d33929"), looks := true }, kinds := [], alts := [], laidByText := true, laidKinds := [.data, .handle, .pinned], laidTests := true, laidLooks := .later }
def IntakeTakesUptoCardSaid : Prop := Claim7.holds Tryd.pinned (.plain (OpenSpec.upto intakeTakesSpec)) intakeTakesUptoCard

/-- THE SECOND FORM's CARD OF 'winnowerlaw22.IntakeAlone'. -/
def intakeAloneUptoCard : Claim7 := { stood := { row := intakeAloneUptoRow, standIns := [], harness := (true, "828aa93492554e049e5d168eaad904db19ac8fa8a5682f31375385fc36d33929"), looks := true }, kinds := [], alts := [], laidByText := true, laidKinds := [.data, .handle, .pinned], laidTests := true, laidLooks := .later }
def IntakeAloneUptoCardSaid : Prop := Claim7.holds Tryd.pinned (.plain (OpenSpec.upto intakeAloneSpec)) intakeAloneUptoCard
end Rows
end Go.Proofs.YtimomihjghefdaaDoor
