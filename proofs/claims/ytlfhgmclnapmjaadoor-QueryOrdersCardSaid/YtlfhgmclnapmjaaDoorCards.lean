/-
  DERIVED. GIVEN WITH THE SEED: THE CARDS: each row of YtlfhgmclnapmjaaDoorRows.lean that lists a variable, with what it lists TIED to the program's text (the seventh form; the later family's looks); each row that meets fmt, with fmt's text TOLD by the authors' own Lean function (tested against real Go, not proved from fmt's source: count such statements apart). THE CARD IS WHAT COUNTS. Prove the row's statement (the work); the ties are given (YtlfhgmclnapmjaaDoorTie.lean); close each card by the builder's one call (the guide's Derived/Test/ToyasCard.lean, 'card_holds'). Laid BY PROGRAM, IN A SANDBOX (cutbox-door.mjs). By AI agents, Wed Nov 11 2026. No macro, syntax, notation, axiom, sorry.
-/
import Derived.Test.YtlfhgmclnapmjaaDoorRows
import GoSem.ClaimSeven
namespace Go.Proofs.YtlfhgmclnapmjaaDoor
namespace Rows

/-- THE TIED CARD OF 'codexlaw17.QueryMatches'. -/
def queryMatchesCard : Claim7 := { stood := { row := queryMatchesRow, standIns := [], harness := (true, "1c8f1c4c98abdfd5d7bf941e568cafca9b3ce300ce01ac868447444848847448"), looks := false }, kinds := [], alts := [], laidByText := true, laidKinds := [.data, .data, .pinned], laidTests := true, laidLooks := .later }
def QueryMatchesCardSaid : Prop := Claim7.holds Tryd.pinned (.plain (OpenSpec.ofChange queryMatchesSpec)) queryMatchesCard

/-- THE TIED CARD OF 'codexlaw17.QueryBools'. -/
def queryBoolsCard : Claim7 := { stood := { row := queryBoolsRow, standIns := [], harness := (true, "1c8f1c4c98abdfd5d7bf941e568cafca9b3ce300ce01ac868447444848847448"), looks := false }, kinds := [], alts := [], laidByText := true, laidKinds := [.data, .data, .pinned], laidTests := true, laidLooks := .later }
def QueryBoolsCardSaid : Prop := Claim7.holds Tryd.pinned (.plain (OpenSpec.ofChange queryBoolsSpec)) queryBoolsCard

/-- THE TIED CARD OF 'codexlaw17.QueryPhrases'. -/
def queryPhrasesCard : Claim7 := { stood := { row := queryPhrasesRow, standIns := [], harness := (true, "1c8f1c4c98abdfd5d7bf941e568cafca9b3ce300ce01ac868447444848847448"), looks := false }, kinds := [], alts := [], laidByText := true, laidKinds := [.data, .data, .pinned], laidTests := true, laidLooks := .later }
def QueryPhrasesCardSaid : Prop := Claim7.holds Tryd.pinned (.plain (OpenSpec.ofChange queryPhrasesSpec)) queryPhrasesCard

/-- THE TIED CARD OF 'codexlaw17.QueryNots'. -/
def queryNotsCard : Claim7 := { stood := { row := queryNotsRow, standIns := [], harness := (true, "1c8f1c4c98abdfd5d7bf941e568cafca9b3ce300ce01ac868447444848847448"), looks := false }, kinds := [], alts := [], laidByText := true, laidKinds := [.data, .data, .pinned], laidTests := true, laidLooks := .later }
def QueryNotsCardSaid : Prop := Claim7.holds Tryd.pinned (.plain (OpenSpec.ofChange queryNotsSpec)) queryNotsCard

/-- THE TIED CARD OF 'codexlaw17.QueryOrders'. -/
def queryOrdersCard : Claim7 := { stood := { row := queryOrdersRow, standIns := [], harness := (true, "1c8f1c4c98abdfd5d7bf941e568cafca9b3ce300ce01ac868447444848847448"), looks := false }, kinds := [], alts := [], laidByText := true, laidKinds := [.data, .data, .pinned], laidTests := true, laidLooks := .later }
def QueryOrdersCardSaid : Prop := Claim7.holds Tryd.pinned (.plain (OpenSpec.ofChange queryOrdersSpec)) queryOrdersCard

/-- THE TIED CARD OF 'codexlaw17.QueryTerms'. -/
def queryTermsCard : Claim7 := { stood := { row := queryTermsRow, standIns := [], harness := (true, "1c8f1c4c98abdfd5d7bf941e568cafca9b3ce300ce01ac868447444848847448"), looks := false }, kinds := [], alts := [], laidByText := true, laidKinds := [.data, .data, .pinned], laidTests := true, laidLooks := .later }
def QueryTermsCardSaid : Prop := Claim7.holds Tryd.pinned (.plain (OpenSpec.ofChange queryTermsSpec)) queryTermsCard

/-- THE SECOND FORM's CARD OF 'codexlaw17.QueryMatches'. -/
def queryMatchesUptoCard : Claim7 := { stood := { row := queryMatchesUptoRow, standIns := [], harness := (true, "1c8f1c4c98abdfd5d7bf941e568cafca9b3ce300ce01ac868447444848847448"), looks := false }, kinds := [], alts := [], laidByText := true, laidKinds := [.data, .data, .pinned], laidTests := true, laidLooks := .later }
def QueryMatchesUptoCardSaid : Prop := Claim7.holds Tryd.pinned (.plain (OpenSpec.upto queryMatchesSpec)) queryMatchesUptoCard

/-- THE SECOND FORM's CARD OF 'codexlaw17.QueryBools'. -/
def queryBoolsUptoCard : Claim7 := { stood := { row := queryBoolsUptoRow, standIns := [], harness := (true, "1c8f1c4c98abdfd5d7bf941e568cafca9b3ce300ce01ac868447444848847448"), looks := false }, kinds := [], alts := [], laidByText := true, laidKinds := [.data, .data, .pinned], laidTests := true, laidLooks := .later }
def QueryBoolsUptoCardSaid : Prop := Claim7.holds Tryd.pinned (.plain (OpenSpec.upto queryBoolsSpec)) queryBoolsUptoCard

/-- THE SECOND FORM's CARD OF 'codexlaw17.QueryPhrases'. -/
def queryPhrasesUptoCard : Claim7 := { stood := { row := queryPhrasesUptoRow, standIns := [], harness := (true, "1c8f1c4c98abdfd5d7bf941e568cafca9b3ce300ce01ac868447444848847448"), looks := false }, kinds := [], alts := [], laidByText := true, laidKinds := [.data, .data, .pinned], laidTests := true, laidLooks := .later }
def QueryPhrasesUptoCardSaid : Prop := Claim7.holds Tryd.pinned (.plain (OpenSpec.upto queryPhrasesSpec)) queryPhrasesUptoCard

/-- THE SECOND FORM's CARD OF 'codexlaw17.QueryNots'. -/
def queryNotsUptoCard : Claim7 := { stood := { row := queryNotsUptoRow, standIns := [], harness := (true, "1c8f1c4c98abdfd5d7bf941e568cafca9b3ce300ce01ac868447444848847448"), looks := false }, kinds := [], alts := [], laidByText := true, laidKinds := [.data, .data, .pinned], laidTests := true, laidLooks := .later }
def QueryNotsUptoCardSaid : Prop := Claim7.holds Tryd.pinned (.plain (OpenSpec.upto queryNotsSpec)) queryNotsUptoCard

/-- THE SECOND FORM's CARD OF 'codexlaw17.QueryOrders'. -/
def queryOrdersUptoCard : Claim7 := { stood := { row := queryOrdersUptoRow, standIns := [], harness := (true, "1c8f1c4c98abdfd5d7bf941e568cafca9b3ce300ce01ac868447444848847448"), looks := false }, kinds := [], alts := [], laidByText := true, laidKinds := [.data, .data, .pinned], laidTests := true, laidLooks := .later }
def QueryOrdersUptoCardSaid : Prop := Claim7.holds Tryd.pinned (.plain (OpenSpec.upto queryOrdersSpec)) queryOrdersUptoCard

/-- THE SECOND FORM's CARD OF 'codexlaw17.QueryTerms'. -/
def queryTermsUptoCard : Claim7 := { stood := { row := queryTermsUptoRow, standIns := [], harness := (true, "1c8f1c4c98abdfd5d7bf941e568cafca9b3ce300ce01ac868447444848847448"), looks := false }, kinds := [], alts := [], laidByText := true, laidKinds := [.data, .data, .pinned], laidTests := true, laidLooks := .later }
def QueryTermsUptoCardSaid : Prop := Claim7.holds Tryd.pinned (.plain (OpenSpec.upto queryTermsSpec)) queryTermsUptoCard
end Rows
end Go.Proofs.YtlfhgmclnapmjaaDoor
