/-
  DERIVED. GIVEN WITH THE SEED: THE CARDS: each row of YtnljmhdaloolgaaDoorRows.lean that lists a variable, with what it lists TIED to the program's text (the seventh form; the later family's looks); each row that meets fmt, with fmt's text TOLD by the authors' own Lean function (tested against real Go, not proved from fmt's source: count such statements apart). THE CARD IS WHAT COUNTS. Prove the row's statement (the work); the ties are given (YtnljmhdaloolgaaDoorTie.lean); close each card by the builder's one call (the guide's Derived/Test/ToyasCard.lean, 'card_holds'). Laid BY PROGRAM, IN A SANDBOX (cutbox-door.mjs). By AI agents, Wed Nov 11 2026. No macro, syntax, notation, axiom, sorry.
-/
import Derived.Test.YtnljmhdaloolgaaDoorRows
import GoSem.ClaimSeven
namespace Go.Proofs.YtnljmhdaloolgaaDoor
namespace Rows

/-- THE TIED CARD OF 'codexlaw3.FramePacks'. -/
def framePacksCard : Claim7 := { stood := { row := framePacksRow, standIns := [], harness := (true, "f66e16e930c113bbc96b66b5e22cda63561e8bd69b2c300e5071e17db77f9135"), looks := false }, kinds := [], alts := [], laidByText := true, laidKinds := [.data, .pinned], laidTests := true, laidLooks := .later }
def FramePacksCardSaid : Prop := Claim7.holds Tryd.pinned (.plain (OpenSpec.ofChange framePacksSpec)) framePacksCard

/-- THE TIED CARD OF 'codexlaw3.FrameReads'. -/
def frameReadsCard : Claim7 := { stood := { row := frameReadsRow, standIns := [], harness := (true, "f66e16e930c113bbc96b66b5e22cda63561e8bd69b2c300e5071e17db77f9135"), looks := false }, kinds := [], alts := [], laidByText := true, laidKinds := [.data, .pinned], laidTests := true, laidLooks := .later }
def FrameReadsCardSaid : Prop := Claim7.holds Tryd.pinned (.plain (OpenSpec.ofChange frameReadsSpec)) frameReadsCard

/-- THE TIED CARD OF 'codexlaw3.FrameBack'. -/
def frameBackCard : Claim7 := { stood := { row := frameBackRow, standIns := [], harness := (true, "f66e16e930c113bbc96b66b5e22cda63561e8bd69b2c300e5071e17db77f9135"), looks := false }, kinds := [], alts := [], laidByText := true, laidKinds := [.data, .pinned], laidTests := true, laidLooks := .later }
def FrameBackCardSaid : Prop := Claim7.holds Tryd.pinned (.plain (OpenSpec.ofChange frameBackSpec)) frameBackCard

/-- THE TIED CARD OF 'codexlaw3.FrameTears'. -/
def frameTearsCard : Claim7 := { stood := { row := frameTearsRow, standIns := [], harness := (true, "f66e16e930c113bbc96b66b5e22cda63561e8bd69b2c300e5071e17db77f9135"), looks := false }, kinds := [], alts := [], laidByText := true, laidKinds := [.data, .pinned], laidTests := true, laidLooks := .later }
def FrameTearsCardSaid : Prop := Claim7.holds Tryd.pinned (.plain (OpenSpec.ofChange frameTearsSpec)) frameTearsCard

/-- THE TIED CARD OF 'codexlaw3.FrameBlocks'. -/
def frameBlocksCard : Claim7 := { stood := { row := frameBlocksRow, standIns := [], harness := (true, "f66e16e930c113bbc96b66b5e22cda63561e8bd69b2c300e5071e17db77f9135"), looks := false }, kinds := [], alts := [], laidByText := true, laidKinds := [.data, .pinned], laidTests := true, laidLooks := .later }
def FrameBlocksCardSaid : Prop := Claim7.holds Tryd.pinned (.plain (OpenSpec.ofChange frameBlocksSpec)) frameBlocksCard

/-- THE TIED CARD OF 'codexlaw3.FrameHeads'. -/
def frameHeadsCard : Claim7 := { stood := { row := frameHeadsRow, standIns := [], harness := (true, "f66e16e930c113bbc96b66b5e22cda63561e8bd69b2c300e5071e17db77f9135"), looks := false }, kinds := [], alts := [], laidByText := true, laidKinds := [.data, .pinned], laidTests := true, laidLooks := .later }
def FrameHeadsCardSaid : Prop := Claim7.holds Tryd.pinned (.plain (OpenSpec.ofChange frameHeadsSpec)) frameHeadsCard

/-- THE SECOND FORM's CARD OF 'codexlaw3.FramePacks'. -/
def framePacksUptoCard : Claim7 := { stood := { row := framePacksUptoRow, standIns := [], harness := (true, "f66e16e930c113bbc96b66b5e22cda63561e8bd69b2c300e5071e17db77f9135"), looks := false }, kinds := [], alts := [], laidByText := true, laidKinds := [.data, .pinned], laidTests := true, laidLooks := .later }
def FramePacksUptoCardSaid : Prop := Claim7.holds Tryd.pinned (.plain (OpenSpec.upto framePacksSpec)) framePacksUptoCard

/-- THE SECOND FORM's CARD OF 'codexlaw3.FrameReads'. -/
def frameReadsUptoCard : Claim7 := { stood := { row := frameReadsUptoRow, standIns := [], harness := (true, "f66e16e930c113bbc96b66b5e22cda63561e8bd69b2c300e5071e17db77f9135"), looks := false }, kinds := [], alts := [], laidByText := true, laidKinds := [.data, .pinned], laidTests := true, laidLooks := .later }
def FrameReadsUptoCardSaid : Prop := Claim7.holds Tryd.pinned (.plain (OpenSpec.upto frameReadsSpec)) frameReadsUptoCard

/-- THE SECOND FORM's CARD OF 'codexlaw3.FrameBack'. -/
def frameBackUptoCard : Claim7 := { stood := { row := frameBackUptoRow, standIns := [], harness := (true, "f66e16e930c113bbc96b66b5e22cda63561e8bd69b2c300e5071e17db77f9135"), looks := false }, kinds := [], alts := [], laidByText := true, laidKinds := [.data, .pinned], laidTests := true, laidLooks := .later }
def FrameBackUptoCardSaid : Prop := Claim7.holds Tryd.pinned (.plain (OpenSpec.upto frameBackSpec)) frameBackUptoCard

/-- THE SECOND FORM's CARD OF 'codexlaw3.FrameTears'. -/
def frameTearsUptoCard : Claim7 := { stood := { row := frameTearsUptoRow, standIns := [], harness := (true, "f66e16e930c113bbc96b66b5e22cda63561e8bd69b2c300e5071e17db77f9135"), looks := false }, kinds := [], alts := [], laidByText := true, laidKinds := [.data, .pinned], laidTests := true, laidLooks := .later }
def FrameTearsUptoCardSaid : Prop := Claim7.holds Tryd.pinned (.plain (OpenSpec.upto frameTearsSpec)) frameTearsUptoCard

/-- THE SECOND FORM's CARD OF 'codexlaw3.FrameBlocks'. -/
def frameBlocksUptoCard : Claim7 := { stood := { row := frameBlocksUptoRow, standIns := [], harness := (true, "f66e16e930c113bbc96b66b5e22cda63561e8bd69b2c300e5071e17db77f9135"), looks := false }, kinds := [], alts := [], laidByText := true, laidKinds := [.data, .pinned], laidTests := true, laidLooks := .later }
def FrameBlocksUptoCardSaid : Prop := Claim7.holds Tryd.pinned (.plain (OpenSpec.upto frameBlocksSpec)) frameBlocksUptoCard

/-- THE SECOND FORM's CARD OF 'codexlaw3.FrameHeads'. -/
def frameHeadsUptoCard : Claim7 := { stood := { row := frameHeadsUptoRow, standIns := [], harness := (true, "f66e16e930c113bbc96b66b5e22cda63561e8bd69b2c300e5071e17db77f9135"), looks := false }, kinds := [], alts := [], laidByText := true, laidKinds := [.data, .pinned], laidTests := true, laidLooks := .later }
def FrameHeadsUptoCardSaid : Prop := Claim7.holds Tryd.pinned (.plain (OpenSpec.upto frameHeadsSpec)) frameHeadsUptoCard
end Rows
end Go.Proofs.YtnljmhdaloolgaaDoor
