/-
  DERIVED. GIVEN WITH THE SEED: THE CARDS: each row of YteefchdfdgfaaaaDoorRows.lean that lists a variable, with what it lists TIED to the program's text (the seventh form; the later family's looks); each row that meets fmt, with fmt's text TOLD by the authors' own Lean function (tested against real Go, not proved from fmt's source: count such statements apart). THE CARD IS WHAT COUNTS. Prove the row's statement (the work); the ties are given (YteefchdfdgfaaaaDoorTie.lean); close each card by the builder's one call (the guide's Derived/Test/ToyasCard.lean, 'card_holds'). Laid BY PROGRAM, IN A SANDBOX (cutbox-door.mjs). By AI agents, Wed Nov 11 2026. No macro, syntax, notation, axiom, sorry.
-/
import Derived.Test.YteefchdfdgfaaaaDoorRows
import GoSem.ClaimSeven
namespace Go.Proofs.YteefchdfdgfaaaaDoor
namespace Rows

/-- THE TIED CARD OF 'winnowerlaw07.SchemaTells'. -/
def schemaTellsCard : Claim7 := { stood := { row := schemaTellsRow, standIns := [], harness := (true, "f713864ec428d2bf4ad1ef0a92d2c1551559daea49f8bccdeac6651984828ea0"), looks := true }, kinds := [], alts := [], laidByText := true, laidKinds := [.data, .handle, .pinned], laidTests := true, laidLooks := .later }
def SchemaTellsCardSaid : Prop := Claim7.holds Tryd.pinned (.plain (OpenSpec.ofChange schemaTellsSpec)) schemaTellsCard

/-- THE TIED CARD OF 'winnowerlaw07.SchemaDecodes'. -/
def schemaDecodesCard : Claim7 := { stood := { row := schemaDecodesRow, standIns := [], harness := (true, "f713864ec428d2bf4ad1ef0a92d2c1551559daea49f8bccdeac6651984828ea0"), looks := true }, kinds := [], alts := [], laidByText := true, laidKinds := [.data, .handle, .pinned], laidTests := true, laidLooks := .later }
def SchemaDecodesCardSaid : Prop := Claim7.holds Tryd.pinned (.plain (OpenSpec.ofChange schemaDecodesSpec)) schemaDecodesCard

/-- THE TIED CARD OF 'winnowerlaw07.SchemaBack'. -/
def schemaBackCard : Claim7 := { stood := { row := schemaBackRow, standIns := [], harness := (true, "f713864ec428d2bf4ad1ef0a92d2c1551559daea49f8bccdeac6651984828ea0"), looks := true }, kinds := [], alts := [], laidByText := true, laidKinds := [.data, .handle, .pinned], laidTests := true, laidLooks := .later }
def SchemaBackCardSaid : Prop := Claim7.holds Tryd.pinned (.plain (OpenSpec.ofChange schemaBackSpec)) schemaBackCard

/-- THE TIED CARD OF 'winnowerlaw07.SchemaOnly'. -/
def schemaOnlyCard : Claim7 := { stood := { row := schemaOnlyRow, standIns := [], harness := (true, "f713864ec428d2bf4ad1ef0a92d2c1551559daea49f8bccdeac6651984828ea0"), looks := true }, kinds := [], alts := [], laidByText := true, laidKinds := [.data, .handle, .pinned], laidTests := true, laidLooks := .later }
def SchemaOnlyCardSaid : Prop := Claim7.holds Tryd.pinned (.plain (OpenSpec.ofChange schemaOnlySpec)) schemaOnlyCard

/-- THE TIED CARD OF 'winnowerlaw07.SchemaApart'. -/
def schemaApartCard : Claim7 := { stood := { row := schemaApartRow, standIns := [], harness := (true, "f713864ec428d2bf4ad1ef0a92d2c1551559daea49f8bccdeac6651984828ea0"), looks := true }, kinds := [], alts := [], laidByText := true, laidKinds := [.data, .handle, .pinned], laidTests := true, laidLooks := .later }
def SchemaApartCardSaid : Prop := Claim7.holds Tryd.pinned (.plain (OpenSpec.ofChange schemaApartSpec)) schemaApartCard

/-- THE SECOND FORM's CARD OF 'winnowerlaw07.SchemaTells'. -/
def schemaTellsUptoCard : Claim7 := { stood := { row := schemaTellsUptoRow, standIns := [], harness := (true, "f713864ec428d2bf4ad1ef0a92d2c1551559daea49f8bccdeac6651984828ea0"), looks := true }, kinds := [], alts := [], laidByText := true, laidKinds := [.data, .handle, .pinned], laidTests := true, laidLooks := .later }
def SchemaTellsUptoCardSaid : Prop := Claim7.holds Tryd.pinned (.plain (OpenSpec.upto schemaTellsSpec)) schemaTellsUptoCard

/-- THE SECOND FORM's CARD OF 'winnowerlaw07.SchemaDecodes'. -/
def schemaDecodesUptoCard : Claim7 := { stood := { row := schemaDecodesUptoRow, standIns := [], harness := (true, "f713864ec428d2bf4ad1ef0a92d2c1551559daea49f8bccdeac6651984828ea0"), looks := true }, kinds := [], alts := [], laidByText := true, laidKinds := [.data, .handle, .pinned], laidTests := true, laidLooks := .later }
def SchemaDecodesUptoCardSaid : Prop := Claim7.holds Tryd.pinned (.plain (OpenSpec.upto schemaDecodesSpec)) schemaDecodesUptoCard

/-- THE SECOND FORM's CARD OF 'winnowerlaw07.SchemaBack'. -/
def schemaBackUptoCard : Claim7 := { stood := { row := schemaBackUptoRow, standIns := [], harness := (true, "f713864ec428d2bf4ad1ef0a92d2c1551559daea49f8bccdeac6651984828ea0"), looks := true }, kinds := [], alts := [], laidByText := true, laidKinds := [.data, .handle, .pinned], laidTests := true, laidLooks := .later }
def SchemaBackUptoCardSaid : Prop := Claim7.holds Tryd.pinned (.plain (OpenSpec.upto schemaBackSpec)) schemaBackUptoCard

/-- THE SECOND FORM's CARD OF 'winnowerlaw07.SchemaOnly'. -/
def schemaOnlyUptoCard : Claim7 := { stood := { row := schemaOnlyUptoRow, standIns := [], harness := (true, "f713864ec428d2bf4ad1ef0a92d2c1551559daea49f8bccdeac6651984828ea0"), looks := true }, kinds := [], alts := [], laidByText := true, laidKinds := [.data, .handle, .pinned], laidTests := true, laidLooks := .later }
def SchemaOnlyUptoCardSaid : Prop := Claim7.holds Tryd.pinned (.plain (OpenSpec.upto schemaOnlySpec)) schemaOnlyUptoCard

/-- THE SECOND FORM's CARD OF 'winnowerlaw07.SchemaApart'. -/
def schemaApartUptoCard : Claim7 := { stood := { row := schemaApartUptoRow, standIns := [], harness := (true, "f713864ec428d2bf4ad1ef0a92d2c1551559daea49f8bccdeac6651984828ea0"), looks := true }, kinds := [], alts := [], laidByText := true, laidKinds := [.data, .handle, .pinned], laidTests := true, laidLooks := .later }
def SchemaApartUptoCardSaid : Prop := Claim7.holds Tryd.pinned (.plain (OpenSpec.upto schemaApartSpec)) schemaApartUptoCard
end Rows
end Go.Proofs.YteefchdfdgfaaaaDoor
