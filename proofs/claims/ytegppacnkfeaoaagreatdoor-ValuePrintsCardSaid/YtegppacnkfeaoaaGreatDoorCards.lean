/-
  DERIVED. GIVEN WITH THE SEED: THE CARDS: each row of YtegppacnkfeaoaaGreatDoorRows.lean that lists a variable, with what it lists TIED to the program's text (the seventh form; the later family's looks); each row that meets fmt, with fmt's text TOLD by the authors' own Lean function (tested against real Go, not proved from fmt's source: count such statements apart). THE CARD IS WHAT COUNTS. Prove the row's statement (the work); the ties are given (YtegppacnkfeaoaaGreatDoorTie.lean); close each card by the builder's one call (the guide's Derived/Test/ToyasCard.lean, 'card_holds'). Laid BY PROGRAM, IN A SANDBOX (cutbox-door.mjs). By AI agents, Wed Nov 11 2026. No macro, syntax, notation, axiom, sorry.
-/
import Derived.Test.YtegppacnkfeaoaaGreatDoorRows
import GoSem.ClaimSeven
namespace Go.Proofs.YtegppacnkfeaoaaGreatDoor
namespace Rows

/-- THE TIED CARD OF 'bloomerylaw11.ValuePrints'. -/
def valuePrintsCard : Claim7 := { stood := { row := valuePrintsRow, standIns := [], harness := (true, "858b85947d2ff8b785b43323efaa674d2fb3172c661049464b65aaa1b3529ac1"), looks := true }, kinds := [], alts := [], laidByText := true, laidKinds := [.data, .data, .data], laidTests := true, laidLooks := .later }
def ValuePrintsCardSaid : Prop := Claim7.holds Tryz.pinned (.plain (OpenSpec.ofChange valuePrintsSpec)) valuePrintsCard

/-- THE TIED CARD OF 'bloomerylaw11.ValueSame'. -/
def valueSameCard : Claim7 := { stood := { row := valueSameRow, standIns := [], harness := (true, "858b85947d2ff8b785b43323efaa674d2fb3172c661049464b65aaa1b3529ac1"), looks := true }, kinds := [], alts := [], laidByText := true, laidKinds := [.data, .data, .data], laidTests := true, laidLooks := .later }
def ValueSameCardSaid : Prop := Claim7.holds Tryz.pinned (.plain (OpenSpec.ofChange valueSameSpec)) valueSameCard

/-- THE TIED CARD OF 'bloomerylaw11.ValueAdds'. -/
def valueAddsCard : Claim7 := { stood := { row := valueAddsRow, standIns := [], harness := (true, "858b85947d2ff8b785b43323efaa674d2fb3172c661049464b65aaa1b3529ac1"), looks := true }, kinds := [], alts := [], laidByText := true, laidKinds := [.data, .data, .data], laidTests := true, laidLooks := .later }
def ValueAddsCardSaid : Prop := Claim7.holds Tryz.pinned (.plain (OpenSpec.ofChange valueAddsSpec)) valueAddsCard

/-- THE TIED CARD OF 'bloomerylaw11.ValueBytes'. -/
def valueBytesCard : Claim7 := { stood := { row := valueBytesRow, standIns := [], harness := (true, "858b85947d2ff8b785b43323efaa674d2fb3172c661049464b65aaa1b3529ac1"), looks := true }, kinds := [], alts := [], laidByText := true, laidKinds := [.data, .data, .data, .sentinel, .sentinel], laidTests := true, laidLooks := .later }
def ValueBytesCardSaid : Prop := Claim7.holds Tryz.pinned (.plain (OpenSpec.ofChange valueBytesSpec)) valueBytesCard

/-- THE TIED CARD OF 'bloomerylaw11.ValueReads'. -/
def valueReadsCard : Claim7 := { stood := { row := valueReadsRow, standIns := [], harness := (true, "858b85947d2ff8b785b43323efaa674d2fb3172c661049464b65aaa1b3529ac1"), looks := true }, kinds := [], alts := [], laidByText := true, laidKinds := [.data, .data, .data, .sentinel, .sentinel], laidTests := true, laidLooks := .later }
def ValueReadsCardSaid : Prop := Claim7.holds Tryz.pinned (.plain (OpenSpec.ofChange valueReadsSpec)) valueReadsCard

/-- THE SECOND FORM's CARD OF 'bloomerylaw11.ValuePrints'. -/
def valuePrintsUptoCard : Claim7 := { stood := { row := valuePrintsUptoRow, standIns := [], harness := (true, "858b85947d2ff8b785b43323efaa674d2fb3172c661049464b65aaa1b3529ac1"), looks := true }, kinds := [], alts := [], laidByText := true, laidKinds := [.data, .data, .data], laidTests := true, laidLooks := .later }
def ValuePrintsUptoCardSaid : Prop := Claim7.holds Tryz.pinned (.plain (OpenSpec.upto valuePrintsSpec)) valuePrintsUptoCard

/-- THE SECOND FORM's CARD OF 'bloomerylaw11.ValueSame'. -/
def valueSameUptoCard : Claim7 := { stood := { row := valueSameUptoRow, standIns := [], harness := (true, "858b85947d2ff8b785b43323efaa674d2fb3172c661049464b65aaa1b3529ac1"), looks := true }, kinds := [], alts := [], laidByText := true, laidKinds := [.data, .data, .data], laidTests := true, laidLooks := .later }
def ValueSameUptoCardSaid : Prop := Claim7.holds Tryz.pinned (.plain (OpenSpec.upto valueSameSpec)) valueSameUptoCard

/-- THE SECOND FORM's CARD OF 'bloomerylaw11.ValueAdds'. -/
def valueAddsUptoCard : Claim7 := { stood := { row := valueAddsUptoRow, standIns := [], harness := (true, "858b85947d2ff8b785b43323efaa674d2fb3172c661049464b65aaa1b3529ac1"), looks := true }, kinds := [], alts := [], laidByText := true, laidKinds := [.data, .data, .data], laidTests := true, laidLooks := .later }
def ValueAddsUptoCardSaid : Prop := Claim7.holds Tryz.pinned (.plain (OpenSpec.upto valueAddsSpec)) valueAddsUptoCard

/-- THE SECOND FORM's CARD OF 'bloomerylaw11.ValueBytes'. -/
def valueBytesUptoCard : Claim7 := { stood := { row := valueBytesUptoRow, standIns := [], harness := (true, "858b85947d2ff8b785b43323efaa674d2fb3172c661049464b65aaa1b3529ac1"), looks := true }, kinds := [], alts := [], laidByText := true, laidKinds := [.data, .data, .data, .sentinel, .sentinel], laidTests := true, laidLooks := .later }
def ValueBytesUptoCardSaid : Prop := Claim7.holds Tryz.pinned (.plain (OpenSpec.upto valueBytesSpec)) valueBytesUptoCard

/-- THE SECOND FORM's CARD OF 'bloomerylaw11.ValueReads'. -/
def valueReadsUptoCard : Claim7 := { stood := { row := valueReadsUptoRow, standIns := [], harness := (true, "858b85947d2ff8b785b43323efaa674d2fb3172c661049464b65aaa1b3529ac1"), looks := true }, kinds := [], alts := [], laidByText := true, laidKinds := [.data, .data, .data, .sentinel, .sentinel], laidTests := true, laidLooks := .later }
def ValueReadsUptoCardSaid : Prop := Claim7.holds Tryz.pinned (.plain (OpenSpec.upto valueReadsSpec)) valueReadsUptoCard
end Rows
end Go.Proofs.YtegppacnkfeaoaaGreatDoor
