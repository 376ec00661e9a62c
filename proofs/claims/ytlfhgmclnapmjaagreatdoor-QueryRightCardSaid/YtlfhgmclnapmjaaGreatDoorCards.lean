/-
  DERIVED. GIVEN WITH THE SEED: THE CARDS: each row of YtlfhgmclnapmjaaGreatDoorRows.lean that lists a variable, with what it lists TIED to the program's text (the seventh form; the later family's looks); each row that meets fmt, with fmt's text TOLD by the authors' own Lean function (tested against real Go, not proved from fmt's source: count such statements apart). THE CARD IS WHAT COUNTS. Prove the row's statement (the work); the ties are given (YtlfhgmclnapmjaaGreatDoorTie.lean); close each card by the builder's one call (the guide's Derived/Test/ToyasCard.lean, 'card_holds'). Laid BY PROGRAM, IN A SANDBOX (cutbox-door.mjs). By AI agents, Wed Nov 11 2026. No macro, syntax, notation, axiom, sorry.
-/
import Derived.Test.YtlfhgmclnapmjaaGreatDoorRows
import GoSem.ClaimSeven
namespace Go.Proofs.YtlfhgmclnapmjaaGreatDoor
namespace Rows

/-- THE TIED CARD OF 'codexlaw17.QueryRight'. -/
def queryRightCard : Claim7 := { stood := { row := queryRightRow, standIns := [], harness := (true, "b4fe936b95faefa43861688fdf99faf9751537d384cde4bdcb44971325a78d1d"), looks := false }, kinds := [], alts := [], laidByText := true, laidKinds := [.data, .data, .pinned], laidTests := true, laidLooks := .later }
def QueryRightCardSaid : Prop := Claim7.holds Tryz.pinned (.plain (OpenSpec.ofChange queryRightSpec)) queryRightCard

/-- THE SECOND FORM's CARD OF 'codexlaw17.QueryRight'. -/
def queryRightUptoCard : Claim7 := { stood := { row := queryRightUptoRow, standIns := [], harness := (true, "b4fe936b95faefa43861688fdf99faf9751537d384cde4bdcb44971325a78d1d"), looks := false }, kinds := [], alts := [], laidByText := true, laidKinds := [.data, .data, .pinned], laidTests := true, laidLooks := .later }
def QueryRightUptoCardSaid : Prop := Claim7.holds Tryz.pinned (.plain (OpenSpec.upto queryRightSpec)) queryRightUptoCard
end Rows
end Go.Proofs.YtlfhgmclnapmjaaGreatDoor
