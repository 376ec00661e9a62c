/-
  DERIVED. GIVEN WITH THE SEED: THE CARDS: each row of YteemloillnfaeaaDoorRows.lean that lists a variable, with what it lists TIED to the program's text (the seventh form; the later family's looks); each row that meets fmt, with fmt's text TOLD by the authors' own Lean function (tested against real Go, not proved from fmt's source: count such statements apart). THE CARD IS WHAT COUNTS. Prove the row's statement (the work); the ties are given (YteemloillnfaeaaDoorTie.lean); close each card by the builder's one call (the guide's Derived/Test/ToyasCard.lean, 'card_holds'). Laid BY PROGRAM, IN A SANDBOX (cutbox-door.mjs). By AI agents, Wed Nov 11 2026. No macro, syntax, notation, axiom, sorry.
-/
import Derived.Test.YteemloillnfaeaaDoorRows
import GoSem.ClaimSeven
namespace Go.Proofs.YteemloillnfaeaaDoor
namespace Rows

/-- THE TIED CARD OF 'codexlaw8.InodePacks'. -/
def inodePacksCard : Claim7 := { stood := { row := inodePacksRow, standIns := [], harness := (true, "bc4290f44f5204ee391be73b3a6f64ca29a9fcc1dd9c7c0c15eab484df779755"), looks := false }, kinds := [], alts := [], laidByText := true, laidKinds := [.data, .pinned], laidTests := true, laidLooks := .later }
def InodePacksCardSaid : Prop := Claim7.holds Tryd.pinned (.plain (OpenSpec.ofChange inodePacksSpec)) inodePacksCard

/-- THE TIED CARD OF 'codexlaw8.InodeReads'. -/
def inodeReadsCard : Claim7 := { stood := { row := inodeReadsRow, standIns := [], harness := (true, "bc4290f44f5204ee391be73b3a6f64ca29a9fcc1dd9c7c0c15eab484df779755"), looks := false }, kinds := [], alts := [], laidByText := true, laidKinds := [.data, .pinned], laidTests := true, laidLooks := .later }
def InodeReadsCardSaid : Prop := Claim7.holds Tryd.pinned (.plain (OpenSpec.ofChange inodeReadsSpec)) inodeReadsCard

/-- THE TIED CARD OF 'codexlaw8.InodeBack'. -/
def inodeBackCard : Claim7 := { stood := { row := inodeBackRow, standIns := [], harness := (true, "bc4290f44f5204ee391be73b3a6f64ca29a9fcc1dd9c7c0c15eab484df779755"), looks := false }, kinds := [], alts := [], laidByText := true, laidKinds := [.data, .pinned], laidTests := true, laidLooks := .later }
def InodeBackCardSaid : Prop := Claim7.holds Tryd.pinned (.plain (OpenSpec.ofChange inodeBackSpec)) inodeBackCard

/-- THE TIED CARD OF 'codexlaw8.InodeBounds'. -/
def inodeBoundsCard : Claim7 := { stood := { row := inodeBoundsRow, standIns := [], harness := (true, "bc4290f44f5204ee391be73b3a6f64ca29a9fcc1dd9c7c0c15eab484df779755"), looks := false }, kinds := [], alts := [], laidByText := true, laidKinds := [.data, .pinned], laidTests := true, laidLooks := .later }
def InodeBoundsCardSaid : Prop := Claim7.holds Tryd.pinned (.plain (OpenSpec.ofChange inodeBoundsSpec)) inodeBoundsCard

/-- THE TIED CARD OF 'codexlaw8.InodeSums'. -/
def inodeSumsCard : Claim7 := { stood := { row := inodeSumsRow, standIns := [], harness := (true, "bc4290f44f5204ee391be73b3a6f64ca29a9fcc1dd9c7c0c15eab484df779755"), looks := false }, kinds := [], alts := [], laidByText := true, laidKinds := [.data, .pinned], laidTests := true, laidLooks := .later }
def InodeSumsCardSaid : Prop := Claim7.holds Tryd.pinned (.plain (OpenSpec.ofChange inodeSumsSpec)) inodeSumsCard

/-- THE TIED CARD OF 'codexlaw8.InodeRight'. -/
def inodeRightCard : Claim7 := { stood := { row := inodeRightRow, standIns := [], harness := (true, "bc4290f44f5204ee391be73b3a6f64ca29a9fcc1dd9c7c0c15eab484df779755"), looks := false }, kinds := [], alts := [], laidByText := true, laidKinds := [.data, .pinned], laidTests := true, laidLooks := .later }
def InodeRightCardSaid : Prop := Claim7.holds Tryd.pinned (.plain (OpenSpec.ofChange inodeRightSpec)) inodeRightCard

/-- THE TIED CARD OF 'codexlaw8.InodeFinds'. -/
def inodeFindsCard : Claim7 := { stood := { row := inodeFindsRow, standIns := [], harness := (true, "bc4290f44f5204ee391be73b3a6f64ca29a9fcc1dd9c7c0c15eab484df779755"), looks := false }, kinds := [], alts := [], laidByText := true, laidKinds := [.data, .pinned], laidTests := true, laidLooks := .later }
def InodeFindsCardSaid : Prop := Claim7.holds Tryd.pinned (.plain (OpenSpec.ofChange inodeFindsSpec)) inodeFindsCard

/-- THE SECOND FORM's CARD OF 'codexlaw8.InodePacks'. -/
def inodePacksUptoCard : Claim7 := { stood := { row := inodePacksUptoRow, standIns := [], harness := (true, "bc4290f44f5204ee391be73b3a6f64ca29a9fcc1dd9c7c0c15eab484df779755"), looks := false }, kinds := [], alts := [], laidByText := true, laidKinds := [.data, .pinned], laidTests := true, laidLooks := .later }
def InodePacksUptoCardSaid : Prop := Claim7.holds Tryd.pinned (.plain (OpenSpec.upto inodePacksSpec)) inodePacksUptoCard

/-- THE SECOND FORM's CARD OF 'codexlaw8.InodeReads'. -/
def inodeReadsUptoCard : Claim7 := { stood := { row := inodeReadsUptoRow, standIns := [], harness := (true, "bc4290f44f5204ee391be73b3a6f64ca29a9fcc1dd9c7c0c15eab484df779755"), looks := false }, kinds := [], alts := [], laidByText := true, laidKinds := [.data, .pinned], laidTests := true, laidLooks := .later }
def InodeReadsUptoCardSaid : Prop := Claim7.holds Tryd.pinned (.plain (OpenSpec.upto inodeReadsSpec)) inodeReadsUptoCard

/-- THE SECOND FORM's CARD OF 'codexlaw8.InodeBack'. -/
def inodeBackUptoCard : Claim7 := { stood := { row := inodeBackUptoRow, standIns := [], harness := (true, "bc4290f44f5204ee391be73b3a6f64ca29a9fcc1dd9c7c0c15eab484df779755"), looks := false }, kinds := [], alts := [], laidByText := true, laidKinds := [.data, .pinned], laidTests := true, laidLooks := .later }
def InodeBackUptoCardSaid : Prop := Claim7.holds Tryd.pinned (.plain (OpenSpec.upto inodeBackSpec)) inodeBackUptoCard

/-- THE SECOND FORM's CARD OF 'codexlaw8.InodeBounds'. -/
def inodeBoundsUptoCard : Claim7 := { stood := { row := inodeBoundsUptoRow, standIns := [], harness := (true, "bc4290f44f5204ee391be73b3a6f64ca29a9fcc1dd9c7c0c15eab484df779755"), looks := false }, kinds := [], alts := [], laidByText := true, laidKinds := [.data, .pinned], laidTests := true, laidLooks := .later }
def InodeBoundsUptoCardSaid : Prop := Claim7.holds Tryd.pinned (.plain (OpenSpec.upto inodeBoundsSpec)) inodeBoundsUptoCard

/-- THE SECOND FORM's CARD OF 'codexlaw8.InodeSums'. -/
def inodeSumsUptoCard : Claim7 := { stood := { row := inodeSumsUptoRow, standIns := [], harness := (true, "bc4290f44f5204ee391be73b3a6f64ca29a9fcc1dd9c7c0c15eab484df779755"), looks := false }, kinds := [], alts := [], laidByText := true, laidKinds := [.data, .pinned], laidTests := true, laidLooks := .later }
def InodeSumsUptoCardSaid : Prop := Claim7.holds Tryd.pinned (.plain (OpenSpec.upto inodeSumsSpec)) inodeSumsUptoCard

/-- THE SECOND FORM's CARD OF 'codexlaw8.InodeRight'. -/
def inodeRightUptoCard : Claim7 := { stood := { row := inodeRightUptoRow, standIns := [], harness := (true, "bc4290f44f5204ee391be73b3a6f64ca29a9fcc1dd9c7c0c15eab484df779755"), looks := false }, kinds := [], alts := [], laidByText := true, laidKinds := [.data, .pinned], laidTests := true, laidLooks := .later }
def InodeRightUptoCardSaid : Prop := Claim7.holds Tryd.pinned (.plain (OpenSpec.upto inodeRightSpec)) inodeRightUptoCard

/-- THE SECOND FORM's CARD OF 'codexlaw8.InodeFinds'. -/
def inodeFindsUptoCard : Claim7 := { stood := { row := inodeFindsUptoRow, standIns := [], harness := (true, "bc4290f44f5204ee391be73b3a6f64ca29a9fcc1dd9c7c0c15eab484df779755"), looks := false }, kinds := [], alts := [], laidByText := true, laidKinds := [.data, .pinned], laidTests := true, laidLooks := .later }
def InodeFindsUptoCardSaid : Prop := Claim7.holds Tryd.pinned (.plain (OpenSpec.upto inodeFindsSpec)) inodeFindsUptoCard
end Rows
end Go.Proofs.YteemloillnfaeaaDoor
