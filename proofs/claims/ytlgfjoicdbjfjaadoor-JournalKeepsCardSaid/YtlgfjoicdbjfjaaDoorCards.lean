/-
  DERIVED. GIVEN WITH THE SEED: THE CARDS: each row of YtlgfjoicdbjfjaaDoorRows.lean that lists a variable, with what it lists TIED to the program's text (the seventh form; the later family's looks); each row that meets fmt, with fmt's text TOLD by the authors' own Lean function (tested against real Go, not proved from fmt's source: count such statements apart). THE CARD IS WHAT COUNTS. Prove the row's statement (the work); the ties are given (YtlgfjoicdbjfjaaDoorTie.lean); close each card by the builder's one call (the guide's Derived/Test/ToyasCard.lean, 'card_holds'). Laid BY PROGRAM, IN A SANDBOX (cutbox-door.mjs). By AI agents, Wed Nov 11 2026. No macro, syntax, notation, axiom, sorry.
-/
import Derived.Test.YtlgfjoicdbjfjaaDoorRows
import GoSem.ClaimSeven
namespace Go.Proofs.YtlgfjoicdbjfjaaDoor
namespace Rows

/-- THE TIED CARD OF 'codexlaw4.JournalRooms'. -/
def journalRoomsCard : Claim7 := { stood := { row := journalRoomsRow, standIns := [], harness := (true, "a10fe7dd52271a046f637af3b23f693c633d2051f9a9f8d66a60bf2bb1e75cc3"), looks := false }, kinds := [], alts := [], laidByText := true, laidKinds := [.data, .pinned], laidTests := true, laidLooks := .later }
def JournalRoomsCardSaid : Prop := Claim7.holds Tryd.pinned (.plain (OpenSpec.ofChange journalRoomsSpec)) journalRoomsCard

/-- THE TIED CARD OF 'codexlaw4.JournalOthers'. -/
def journalOthersCard : Claim7 := { stood := { row := journalOthersRow, standIns := [], harness := (true, "a10fe7dd52271a046f637af3b23f693c633d2051f9a9f8d66a60bf2bb1e75cc3"), looks := false }, kinds := [], alts := [], laidByText := true, laidKinds := [.data, .pinned], laidTests := true, laidLooks := .later }
def JournalOthersCardSaid : Prop := Claim7.holds Tryd.pinned (.plain (OpenSpec.ofChange journalOthersSpec)) journalOthersCard

/-- THE TIED CARD OF 'codexlaw4.JournalKeeps'. -/
def journalKeepsCard : Claim7 := { stood := { row := journalKeepsRow, standIns := [], harness := (true, "a10fe7dd52271a046f637af3b23f693c633d2051f9a9f8d66a60bf2bb1e75cc3"), looks := false }, kinds := [], alts := [], laidByText := true, laidKinds := [.data, .pinned], laidTests := true, laidLooks := .later }
def JournalKeepsCardSaid : Prop := Claim7.holds Tryd.pinned (.plain (OpenSpec.ofChange journalKeepsSpec)) journalKeepsCard

/-- THE TIED CARD OF 'codexlaw4.JournalTwice'. -/
def journalTwiceCard : Claim7 := { stood := { row := journalTwiceRow, standIns := [], harness := (true, "a10fe7dd52271a046f637af3b23f693c633d2051f9a9f8d66a60bf2bb1e75cc3"), looks := false }, kinds := [], alts := [], laidByText := true, laidKinds := [.data, .pinned], laidTests := true, laidLooks := .later }
def JournalTwiceCardSaid : Prop := Claim7.holds Tryd.pinned (.plain (OpenSpec.ofChange journalTwiceSpec)) journalTwiceCard

/-- THE TIED CARD OF 'codexlaw4.JournalPromotes'. -/
def journalPromotesCard : Claim7 := { stood := { row := journalPromotesRow, standIns := [], harness := (true, "a10fe7dd52271a046f637af3b23f693c633d2051f9a9f8d66a60bf2bb1e75cc3"), looks := false }, kinds := [], alts := [], laidByText := true, laidKinds := [.data, .pinned], laidTests := true, laidLooks := .later }
def JournalPromotesCardSaid : Prop := Claim7.holds Tryd.pinned (.plain (OpenSpec.ofChange journalPromotesSpec)) journalPromotesCard

/-- THE SECOND FORM's CARD OF 'codexlaw4.JournalRooms'. -/
def journalRoomsUptoCard : Claim7 := { stood := { row := journalRoomsUptoRow, standIns := [], harness := (true, "a10fe7dd52271a046f637af3b23f693c633d2051f9a9f8d66a60bf2bb1e75cc3"), looks := false }, kinds := [], alts := [], laidByText := true, laidKinds := [.data, .pinned], laidTests := true, laidLooks := .later }
def JournalRoomsUptoCardSaid : Prop := Claim7.holds Tryd.pinned (.plain (OpenSpec.upto journalRoomsSpec)) journalRoomsUptoCard

/-- THE SECOND FORM's CARD OF 'codexlaw4.JournalOthers'. -/
def journalOthersUptoCard : Claim7 := { stood := { row := journalOthersUptoRow, standIns := [], harness := (true, "a10fe7dd52271a046f637af3b23f693c633d2051f9a9f8d66a60bf2bb1e75cc3"), looks := false }, kinds := [], alts := [], laidByText := true, laidKinds := [.data, .pinned], laidTests := true, laidLooks := .later }
def JournalOthersUptoCardSaid : Prop := Claim7.holds Tryd.pinned (.plain (OpenSpec.upto journalOthersSpec)) journalOthersUptoCard

/-- THE SECOND FORM's CARD OF 'codexlaw4.JournalKeeps'. -/
def journalKeepsUptoCard : Claim7 := { stood := { row := journalKeepsUptoRow, standIns := [], harness := (true, "a10fe7dd52271a046f637af3b23f693c633d2051f9a9f8d66a60bf2bb1e75cc3"), looks := false }, kinds := [], alts := [], laidByText := true, laidKinds := [.data, .pinned], laidTests := true, laidLooks := .later }
def JournalKeepsUptoCardSaid : Prop := Claim7.holds Tryd.pinned (.plain (OpenSpec.upto journalKeepsSpec)) journalKeepsUptoCard

/-- THE SECOND FORM's CARD OF 'codexlaw4.JournalTwice'. -/
def journalTwiceUptoCard : Claim7 := { stood := { row := journalTwiceUptoRow, standIns := [], harness := (true, "a10fe7dd52271a046f637af3b23f693c633d2051f9a9f8d66a60bf2bb1e75cc3"), looks := false }, kinds := [], alts := [], laidByText := true, laidKinds := [.data, .pinned], laidTests := true, laidLooks := .later }
def JournalTwiceUptoCardSaid : Prop := Claim7.holds Tryd.pinned (.plain (OpenSpec.upto journalTwiceSpec)) journalTwiceUptoCard

/-- THE SECOND FORM's CARD OF 'codexlaw4.JournalPromotes'. -/
def journalPromotesUptoCard : Claim7 := { stood := { row := journalPromotesUptoRow, standIns := [], harness := (true, "a10fe7dd52271a046f637af3b23f693c633d2051f9a9f8d66a60bf2bb1e75cc3"), looks := false }, kinds := [], alts := [], laidByText := true, laidKinds := [.data, .pinned], laidTests := true, laidLooks := .later }
def JournalPromotesUptoCardSaid : Prop := Claim7.holds Tryd.pinned (.plain (OpenSpec.upto journalPromotesSpec)) journalPromotesUptoCard
end Rows
end Go.Proofs.YtlgfjoicdbjfjaaDoor
