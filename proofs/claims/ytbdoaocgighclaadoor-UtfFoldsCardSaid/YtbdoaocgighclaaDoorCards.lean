/-
  DERIVED. GIVEN WITH THE SEED: THE CARDS: each row of YtbdoaocgighclaaDoorRows.lean that lists a variable, with what it lists TIED to the program's text (the seventh form; the later family's looks); each row that meets fmt, with fmt's text TOLD by the authors' own Lean function (tested against real Go, not proved from fmt's source: count such statements apart). THE CARD IS WHAT COUNTS. Prove the row's statement (the work); the ties are given (YtbdoaocgighclaaDoorTie.lean); close each card by the builder's one call (the guide's Derived/Test/ToyasCard.lean, 'card_holds'). Laid BY PROGRAM, IN A SANDBOX (cutbox-door.mjs). By AI agents, Wed Nov 11 2026. No macro, syntax, notation, axiom, sorry.
-/
import Derived.Test.YtbdoaocgighclaaDoorRows
import GoSem.ClaimSeven
namespace Go.Proofs.YtbdoaocgighclaaDoor
namespace Rows

/-- THE TIED CARD OF 'codexlaw10.UtfFolds'. -/
def utfFoldsCard : Claim7 := { stood := { row := utfFoldsRow, standIns := [], harness := (true, "4d1e8e3d5efb53b193c54a9cc0e832ae2f670123340fa75ddcc3ae81a7b8bc10"), looks := false }, kinds := [], alts := [], laidByText := true, laidKinds := [.data, .data, .pinned], laidTests := true, laidLooks := .later }
def UtfFoldsCardSaid : Prop := Claim7.holds Tryd.pinned (.plain (OpenSpec.ofChange utfFoldsSpec)) utfFoldsCard

/-- THE TIED CARD OF 'codexlaw10.UtfKinds'. -/
def utfKindsCard : Claim7 := { stood := { row := utfKindsRow, standIns := [], harness := (true, "4d1e8e3d5efb53b193c54a9cc0e832ae2f670123340fa75ddcc3ae81a7b8bc10"), looks := false }, kinds := [], alts := [], laidByText := true, laidKinds := [.data, .data, .pinned], laidTests := true, laidLooks := .later }
def UtfKindsCardSaid : Prop := Claim7.holds Tryd.pinned (.plain (OpenSpec.ofChange utfKindsSpec)) utfKindsCard

/-- THE TIED CARD OF 'codexlaw10.UtfBytes'. -/
def utfBytesCard : Claim7 := { stood := { row := utfBytesRow, standIns := [], harness := (true, "4d1e8e3d5efb53b193c54a9cc0e832ae2f670123340fa75ddcc3ae81a7b8bc10"), looks := false }, kinds := [], alts := [], laidByText := true, laidKinds := [.data, .data, .pinned], laidTests := true, laidLooks := .later }
def UtfBytesCardSaid : Prop := Claim7.holds Tryd.pinned (.plain (OpenSpec.ofChange utfBytesSpec)) utfBytesCard

/-- THE TIED CARD OF 'codexlaw10.UtfReads'. -/
def utfReadsCard : Claim7 := { stood := { row := utfReadsRow, standIns := [], harness := (true, "4d1e8e3d5efb53b193c54a9cc0e832ae2f670123340fa75ddcc3ae81a7b8bc10"), looks := false }, kinds := [], alts := [], laidByText := true, laidKinds := [.data, .data, .pinned], laidTests := true, laidLooks := .later }
def UtfReadsCardSaid : Prop := Claim7.holds Tryd.pinned (.plain (OpenSpec.ofChange utfReadsSpec)) utfReadsCard

/-- THE TIED CARD OF 'codexlaw10.UtfKeeps'. -/
def utfKeepsCard : Claim7 := { stood := { row := utfKeepsRow, standIns := [], harness := (true, "4d1e8e3d5efb53b193c54a9cc0e832ae2f670123340fa75ddcc3ae81a7b8bc10"), looks := false }, kinds := [], alts := [], laidByText := true, laidKinds := [.data, .data, .pinned], laidTests := true, laidLooks := .later }
def UtfKeepsCardSaid : Prop := Claim7.holds Tryd.pinned (.plain (OpenSpec.ofChange utfKeepsSpec)) utfKeepsCard

/-- THE TIED CARD OF 'codexlaw10.UtfParts'. -/
def utfPartsCard : Claim7 := { stood := { row := utfPartsRow, standIns := [], harness := (true, "4d1e8e3d5efb53b193c54a9cc0e832ae2f670123340fa75ddcc3ae81a7b8bc10"), looks := false }, kinds := [], alts := [], laidByText := true, laidKinds := [.data, .data, .pinned], laidTests := true, laidLooks := .later }
def UtfPartsCardSaid : Prop := Claim7.holds Tryd.pinned (.plain (OpenSpec.ofChange utfPartsSpec)) utfPartsCard

/-- THE SECOND FORM's CARD OF 'codexlaw10.UtfFolds'. -/
def utfFoldsUptoCard : Claim7 := { stood := { row := utfFoldsUptoRow, standIns := [], harness := (true, "4d1e8e3d5efb53b193c54a9cc0e832ae2f670123340fa75ddcc3ae81a7b8bc10"), looks := false }, kinds := [], alts := [], laidByText := true, laidKinds := [.data, .data, .pinned], laidTests := true, laidLooks := .later }
def UtfFoldsUptoCardSaid : Prop := Claim7.holds Tryd.pinned (.plain (OpenSpec.upto utfFoldsSpec)) utfFoldsUptoCard

/-- THE SECOND FORM's CARD OF 'codexlaw10.UtfKinds'. -/
def utfKindsUptoCard : Claim7 := { stood := { row := utfKindsUptoRow, standIns := [], harness := (true, "4d1e8e3d5efb53b193c54a9cc0e832ae2f670123340fa75ddcc3ae81a7b8bc10"), looks := false }, kinds := [], alts := [], laidByText := true, laidKinds := [.data, .data, .pinned], laidTests := true, laidLooks := .later }
def UtfKindsUptoCardSaid : Prop := Claim7.holds Tryd.pinned (.plain (OpenSpec.upto utfKindsSpec)) utfKindsUptoCard

/-- THE SECOND FORM's CARD OF 'codexlaw10.UtfBytes'. -/
def utfBytesUptoCard : Claim7 := { stood := { row := utfBytesUptoRow, standIns := [], harness := (true, "4d1e8e3d5efb53b193c54a9cc0e832ae2f670123340fa75ddcc3ae81a7b8bc10"), looks := false }, kinds := [], alts := [], laidByText := true, laidKinds := [.data, .data, .pinned], laidTests := true, laidLooks := .later }
def UtfBytesUptoCardSaid : Prop := Claim7.holds Tryd.pinned (.plain (OpenSpec.upto utfBytesSpec)) utfBytesUptoCard

/-- THE SECOND FORM's CARD OF 'codexlaw10.UtfReads'. -/
def utfReadsUptoCard : Claim7 := { stood := { row := utfReadsUptoRow, standIns := [], harness := (true, "4d1e8e3d5efb53b193c54a9cc0e832ae2f670123340fa75ddcc3ae81a7b8bc10"), looks := false }, kinds := [], alts := [], laidByText := true, laidKinds := [.data, .data, .pinned], laidTests := true, laidLooks := .later }
def UtfReadsUptoCardSaid : Prop := Claim7.holds Tryd.pinned (.plain (OpenSpec.upto utfReadsSpec)) utfReadsUptoCard

/-- THE SECOND FORM's CARD OF 'codexlaw10.UtfKeeps'. -/
def utfKeepsUptoCard : Claim7 := { stood := { row := utfKeepsUptoRow, standIns := [], harness := (true, "4d1e8e3d5efb53b193c54a9cc0e832ae2f670123340fa75ddcc3ae81a7b8bc10"), looks := false }, kinds := [], alts := [], laidByText := true, laidKinds := [.data, .data, .pinned], laidTests := true, laidLooks := .later }
def UtfKeepsUptoCardSaid : Prop := Claim7.holds Tryd.pinned (.plain (OpenSpec.upto utfKeepsSpec)) utfKeepsUptoCard

/-- THE SECOND FORM's CARD OF 'codexlaw10.UtfParts'. -/
def utfPartsUptoCard : Claim7 := { stood := { row := utfPartsUptoRow, standIns := [], harness := (true, "4d1e8e3d5efb53b193c54a9cc0e832ae2f670123340fa75ddcc3ae81a7b8bc10"), looks := false }, kinds := [], alts := [], laidByText := true, laidKinds := [.data, .data, .pinned], laidTests := true, laidLooks := .later }
def UtfPartsUptoCardSaid : Prop := Claim7.holds Tryd.pinned (.plain (OpenSpec.upto utfPartsSpec)) utfPartsUptoCard
end Rows
end Go.Proofs.YtbdoaocgighclaaDoor
