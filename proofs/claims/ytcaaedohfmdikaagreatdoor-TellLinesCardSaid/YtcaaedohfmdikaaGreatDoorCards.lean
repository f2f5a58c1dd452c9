/-
  DERIVED. GIVEN WITH THE SEED: THE CARDS: each row of YtcaaedohfmdikaaGreatDoorRows.lean that lists a variable, with what it lists TIED to the program's text (the seventh form; the later family's looks); each row that meets fmt, with fmt's text TOLD by the authors' own Lean function (tested against real Go, not proved from fmt's source: count such statements apart). THE CARD IS WHAT COUNTS. Prove the row's statement (the work); the ties are given (YtcaaedohfmdikaaGreatDoorTie.lean); close each card by the builder's one call (the guide's Derived/Test/ToyasCard.lean, 'card_holds'). Laid BY PROGRAM, IN A SANDBOX (cutbox-door.mjs). By AI agents, Wed Nov 11 2026. No macro, syntax, notation, axiom, sorry.
-/
import Derived.Test.YtcaaedohfmdikaaGreatDoorRows
import GoSem.ClaimSeven
namespace Go.Proofs.YtcaaedohfmdikaaGreatDoor
namespace Rows

/-- THE TIED CARD OF 'farrierlaw20.OrchUnits'. -/
def orchUnitsCard : Claim7 := { stood := { row := orchUnitsRow, standIns := [], harness := (true, "ba22f6ecb7e1fbff4d02c4a618b671b3c78bbea0d6346c5353a9f02870dbbda4"), looks := true }, kinds := [], alts := [], laidByText := true, laidKinds := [.data, .data, .data, .data, .sentinel, .sentinel, .pinned], laidTests := true, laidLooks := .later }
def OrchUnitsCardSaid : Prop := Claim7.holds Tryz.pinned (.plain (OpenSpec.ofChange orchUnitsSpec)) orchUnitsCard

/-- THE TIED CARD OF 'farrierlaw22.TellWords'. -/
def tellWordsCard : Claim7 := { stood := { row := tellWordsRow, standIns := [], harness := (true, "ba22f6ecb7e1fbff4d02c4a618b671b3c78bbea0d6346c5353a9f02870dbbda4"), looks := true }, kinds := [], alts := [], laidByText := true, laidKinds := [.data, .data, .data, .data, .sentinel, .sentinel, .pinned], laidTests := true, laidLooks := .later }
def TellWordsCardSaid : Prop := Claim7.holds Tryz.pinned (.plain (OpenSpec.ofChange tellWordsSpec)) tellWordsCard

/-- THE TIED CARD OF 'farrierlaw22.TellLines'. -/
def tellLinesCard : Claim7 := { stood := { row := tellLinesRow, standIns := [], harness := (true, "ba22f6ecb7e1fbff4d02c4a618b671b3c78bbea0d6346c5353a9f02870dbbda4"), looks := true }, kinds := [], alts := [], laidByText := true, laidKinds := [.data, .data, .data, .data, .sentinel, .sentinel, .pinned], laidTests := true, laidLooks := .later }
def TellLinesCardSaid : Prop := Claim7.holds Tryz.pinned (.plain (OpenSpec.ofChange tellLinesSpec)) tellLinesCard

/-- THE SECOND FORM's CARD OF 'farrierlaw20.OrchUnits'. -/
def orchUnitsUptoCard : Claim7 := { stood := { row := orchUnitsUptoRow, standIns := [], harness := (true, "ba22f6ecb7e1fbff4d02c4a618b671b3c78bbea0d6346c5353a9f02870dbbda4"), looks := true }, kinds := [], alts := [], laidByText := true, laidKinds := [.data, .data, .data, .data, .sentinel, .sentinel, .pinned], laidTests := true, laidLooks := .later }
def OrchUnitsUptoCardSaid : Prop := Claim7.holds Tryz.pinned (.plain (OpenSpec.upto orchUnitsSpec)) orchUnitsUptoCard

/-- THE SECOND FORM's CARD OF 'farrierlaw22.TellWords'. -/
def tellWordsUptoCard : Claim7 := { stood := { row := tellWordsUptoRow, standIns := [], harness := (true, "ba22f6ecb7e1fbff4d02c4a618b671b3c78bbea0d6346c5353a9f02870dbbda4"), looks := true }, kinds := [], alts := [], laidByText := true, laidKinds := [.data, .data, .data, .data, .sentinel, .sentinel, .pinned], laidTests := true, laidLooks := .later }
def TellWordsUptoCardSaid : Prop := Claim7.holds Tryz.pinned (.plain (OpenSpec.upto tellWordsSpec)) tellWordsUptoCard

/-- THE SECOND FORM's CARD OF 'farrierlaw22.TellLines'. -/
def tellLinesUptoCard : Claim7 := { stood := { row := tellLinesUptoRow, standIns := [], harness := (true, "ba22f6ecb7e1fbff4d02c4a618b671b3c78bbea0d6346c5353a9f02870dbbda4"), looks := true }, kinds := [], alts := [], laidByText := true, laidKinds := [.data, .data, .data, .data, .sentinel, .sentinel, .pinned], laidTests := true, laidLooks := .later }
def TellLinesUptoCardSaid : Prop := Claim7.holds Tryz.pinned (.plain (OpenSpec.upto tellLinesSpec)) tellLinesUptoCard
end Rows
end Go.Proofs.YtcaaedohfmdikaaGreatDoor
