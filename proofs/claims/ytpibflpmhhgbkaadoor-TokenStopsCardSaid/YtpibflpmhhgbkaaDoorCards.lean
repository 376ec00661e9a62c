/-
  DERIVED. GIVEN WITH THE SEED: THE CARDS: each row of YtpibflpmhhgbkaaDoorRows.lean that lists a variable, with what it lists TIED to the program's text (the seventh form; the later family's looks); each row that meets fmt, with fmt's text TOLD by the authors' own Lean function (tested against real Go, not proved from fmt's source: count such statements apart). THE CARD IS WHAT COUNTS. Prove the row's statement (the work); the ties are given (YtpibflpmhhgbkaaDoorTie.lean); close each card by the builder's one call (the guide's Derived/Test/ToyasCard.lean, 'card_holds'). Laid BY PROGRAM, IN A SANDBOX (cutbox-door.mjs). By AI agents, Wed Nov 11 2026. No macro, syntax, notation, axiom, sorry.
-/
import Derived.Test.YtpibflpmhhgbkaaDoorRows
import GoSem.ClaimSeven
namespace Go.Proofs.YtpibflpmhhgbkaaDoor
namespace Rows

/-- THE TIED CARD OF 'codexlaw11.TokenWords'. -/
def tokenWordsCard : Claim7 := { stood := { row := tokenWordsRow, standIns := [], harness := (true, "8388db655cc6fdc146d05427e5130f42abc7587e9638f27e00efbe3b0d2658f7"), looks := false }, kinds := [], alts := [], laidByText := true, laidKinds := [.data, .data, .pinned], laidTests := true, laidLooks := .later }
def TokenWordsCardSaid : Prop := Claim7.holds Tryd.pinned (.plain (OpenSpec.ofChange tokenWordsSpec)) tokenWordsCard

/-- THE TIED CARD OF 'codexlaw11.TokenFolds'. -/
def tokenFoldsCard : Claim7 := { stood := { row := tokenFoldsRow, standIns := [], harness := (true, "8388db655cc6fdc146d05427e5130f42abc7587e9638f27e00efbe3b0d2658f7"), looks := false }, kinds := [], alts := [], laidByText := true, laidKinds := [.data, .data, .pinned], laidTests := true, laidLooks := .later }
def TokenFoldsCardSaid : Prop := Claim7.holds Tryd.pinned (.plain (OpenSpec.ofChange tokenFoldsSpec)) tokenFoldsCard

/-- THE TIED CARD OF 'codexlaw11.TokenJoins'. -/
def tokenJoinsCard : Claim7 := { stood := { row := tokenJoinsRow, standIns := [], harness := (true, "8388db655cc6fdc146d05427e5130f42abc7587e9638f27e00efbe3b0d2658f7"), looks := false }, kinds := [], alts := [], laidByText := true, laidKinds := [.data, .data, .pinned], laidTests := true, laidLooks := .later }
def TokenJoinsCardSaid : Prop := Claim7.holds Tryd.pinned (.plain (OpenSpec.ofChange tokenJoinsSpec)) tokenJoinsCard

/-- THE TIED CARD OF 'codexlaw11.TokenMarks'. -/
def tokenMarksCard : Claim7 := { stood := { row := tokenMarksRow, standIns := [], harness := (true, "8388db655cc6fdc146d05427e5130f42abc7587e9638f27e00efbe3b0d2658f7"), looks := false }, kinds := [], alts := [], laidByText := true, laidKinds := [.data, .data, .pinned], laidTests := true, laidLooks := .later }
def TokenMarksCardSaid : Prop := Claim7.holds Tryd.pinned (.plain (OpenSpec.ofChange tokenMarksSpec)) tokenMarksCard

/-- THE TIED CARD OF 'codexlaw11.TokenStops'. -/
def tokenStopsCard : Claim7 := { stood := { row := tokenStopsRow, standIns := [], harness := (true, "8388db655cc6fdc146d05427e5130f42abc7587e9638f27e00efbe3b0d2658f7"), looks := false }, kinds := [], alts := [], laidByText := true, laidKinds := [.data, .data, .pinned], laidTests := true, laidLooks := .later }
def TokenStopsCardSaid : Prop := Claim7.holds Tryd.pinned (.plain (OpenSpec.ofChange tokenStopsSpec)) tokenStopsCard

/-- THE SECOND FORM's CARD OF 'codexlaw11.TokenWords'. -/
def tokenWordsUptoCard : Claim7 := { stood := { row := tokenWordsUptoRow, standIns := [], harness := (true, "8388db655cc6fdc146d05427e5130f42abc7587e9638f27e00efbe3b0d2658f7"), looks := false }, kinds := [], alts := [], laidByText := true, laidKinds := [.data, .data, .pinned], laidTests := true, laidLooks := .later }
def TokenWordsUptoCardSaid : Prop := Claim7.holds Tryd.pinned (.plain (OpenSpec.upto tokenWordsSpec)) tokenWordsUptoCard

/-- THE SECOND FORM's CARD OF 'codexlaw11.TokenFolds'. -/
def tokenFoldsUptoCard : Claim7 := { stood := { row := tokenFoldsUptoRow, standIns := [], harness := (true, "8388db655cc6fdc146d05427e5130f42abc7587e9638f27e00efbe3b0d2658f7"), looks := false }, kinds := [], alts := [], laidByText := true, laidKinds := [.data, .data, .pinned], laidTests := true, laidLooks := .later }
def TokenFoldsUptoCardSaid : Prop := Claim7.holds Tryd.pinned (.plain (OpenSpec.upto tokenFoldsSpec)) tokenFoldsUptoCard

/-- THE SECOND FORM's CARD OF 'codexlaw11.TokenJoins'. -/
def tokenJoinsUptoCard : Claim7 := { stood := { row := tokenJoinsUptoRow, standIns := [], harness := (true, "8388db655cc6fdc146d05427e5130f42abc7587e9638f27e00efbe3b0d2658f7"), looks := false }, kinds := [], alts := [], laidByText := true, laidKinds := [.data, .data, .pinned], laidTests := true, laidLooks := .later }
def TokenJoinsUptoCardSaid : Prop := Claim7.holds Tryd.pinned (.plain (OpenSpec.upto tokenJoinsSpec)) tokenJoinsUptoCard

/-- THE SECOND FORM's CARD OF 'codexlaw11.TokenMarks'. -/
def tokenMarksUptoCard : Claim7 := { stood := { row := tokenMarksUptoRow, standIns := [], harness := (true, "8388db655cc6fdc146d05427e5130f42abc7587e9638f27e00efbe3b0d2658f7"), looks := false }, kinds := [], alts := [], laidByText := true, laidKinds := [.data, .data, .pinned], laidTests := true, laidLooks := .later }
def TokenMarksUptoCardSaid : Prop := Claim7.holds Tryd.pinned (.plain (OpenSpec.upto tokenMarksSpec)) tokenMarksUptoCard

/-- THE SECOND FORM's CARD OF 'codexlaw11.TokenStops'. -/
def tokenStopsUptoCard : Claim7 := { stood := { row := tokenStopsUptoRow, standIns := [], harness := (true, "8388db655cc6fdc146d05427e5130f42abc7587e9638f27e00efbe3b0d2658f7"), looks := false }, kinds := [], alts := [], laidByText := true, laidKinds := [.data, .data, .pinned], laidTests := true, laidLooks := .later }
def TokenStopsUptoCardSaid : Prop := Claim7.holds Tryd.pinned (.plain (OpenSpec.upto tokenStopsSpec)) tokenStopsUptoCard
end Rows
end Go.Proofs.YtpibflpmhhgbkaaDoor
