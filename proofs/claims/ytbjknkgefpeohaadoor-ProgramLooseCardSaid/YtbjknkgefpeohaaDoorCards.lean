/-
  DERIVED. GIVEN WITH THE SEED: THE CARDS: each row of YtbjknkgefpeohaaDoorRows.lean that lists a variable, with what it lists TIED to the program's text (the seventh form; the later family's looks); each row that meets fmt, with fmt's text TOLD by the authors' own Lean function (tested against real Go, not proved from fmt's source: count such statements apart). THE CARD IS WHAT COUNTS. Prove the row's statement (the work); the ties are given (YtbjknkgefpeohaaDoorTie.lean); close each card by the builder's one call (the guide's Derived/Test/ToyasCard.lean, 'card_holds'). Laid BY PROGRAM, IN A SANDBOX (cutbox-door.mjs). By AI agents, Wed Nov 11 2026. No macro, syntax, notation, axiom, sorry.
-/
import Derived.Test.YtbjknkgefpeohaaDoorRows
import GoSem.ClaimSeven
namespace Go.Proofs.YtbjknkgefpeohaaDoor
namespace Rows

/-- THE TIED CARD OF 'middenheaplaw15.ProgramTells'. -/
def programTellsCard : Claim7 := { stood := { row := programTellsRow, standIns := [], harness := (true, "223e735302b5b50a469fd6c0b229a80a075ed76d1c33257095e091b2cbd7ebe6"), looks := true }, kinds := [], alts := [], laidByText := true, laidKinds := [.data, .data, .data, .data, .sentinel, .sentinel, .pinned], laidTests := true, laidLooks := .later }
def ProgramTellsCardSaid : Prop := Claim7.holds Tryd.pinned (.plain (OpenSpec.ofChange programTellsSpec)) programTellsCard

/-- THE TIED CARD OF 'middenheaplaw15.ProgramBack'. -/
def programBackCard : Claim7 := { stood := { row := programBackRow, standIns := [], harness := (true, "223e735302b5b50a469fd6c0b229a80a075ed76d1c33257095e091b2cbd7ebe6"), looks := true }, kinds := [], alts := [], laidByText := true, laidKinds := [.data, .data, .data, .data, .sentinel, .sentinel, .pinned], laidTests := true, laidLooks := .later }
def ProgramBackCardSaid : Prop := Claim7.holds Tryd.pinned (.plain (OpenSpec.ofChange programBackSpec)) programBackCard

/-- THE TIED CARD OF 'middenheaplaw15.ProgramForth'. -/
def programForthCard : Claim7 := { stood := { row := programForthRow, standIns := [], harness := (true, "223e735302b5b50a469fd6c0b229a80a075ed76d1c33257095e091b2cbd7ebe6"), looks := true }, kinds := [], alts := [], laidByText := true, laidKinds := [.data, .data, .data, .data, .sentinel, .sentinel, .pinned], laidTests := true, laidLooks := .later }
def ProgramForthCardSaid : Prop := Claim7.holds Tryd.pinned (.plain (OpenSpec.ofChange programForthSpec)) programForthCard

/-- THE TIED CARD OF 'middenheaplaw15.ProgramBounds'. -/
def programBoundsCard : Claim7 := { stood := { row := programBoundsRow, standIns := [], harness := (true, "223e735302b5b50a469fd6c0b229a80a075ed76d1c33257095e091b2cbd7ebe6"), looks := true }, kinds := [], alts := [], laidByText := true, laidKinds := [.data, .data, .data, .data, .sentinel, .sentinel, .pinned], laidTests := true, laidLooks := .later }
def ProgramBoundsCardSaid : Prop := Claim7.holds Tryd.pinned (.plain (OpenSpec.ofChange programBoundsSpec)) programBoundsCard

/-- THE TIED CARD OF 'middenheaplaw15.ProgramLoose'. -/
def programLooseCard : Claim7 := { stood := { row := programLooseRow, standIns := [], harness := (true, "223e735302b5b50a469fd6c0b229a80a075ed76d1c33257095e091b2cbd7ebe6"), looks := true }, kinds := [], alts := [], laidByText := true, laidKinds := [.data, .data, .data, .data, .sentinel, .sentinel, .pinned], laidTests := true, laidLooks := .later }
def ProgramLooseCardSaid : Prop := Claim7.holds Tryd.pinned (.plain (OpenSpec.ofChange programLooseSpec)) programLooseCard

/-- THE TIED CARD OF 'middenheaplaw15.ProgramWrong'. -/
def programWrongCard : Claim7 := { stood := { row := programWrongRow, standIns := [], harness := (true, "223e735302b5b50a469fd6c0b229a80a075ed76d1c33257095e091b2cbd7ebe6"), looks := true }, kinds := [], alts := [], laidByText := true, laidKinds := [.data, .data, .data, .data, .sentinel, .sentinel, .pinned], laidTests := true, laidLooks := .later }
def ProgramWrongCardSaid : Prop := Claim7.holds Tryd.pinned (.plain (OpenSpec.ofChange programWrongSpec)) programWrongCard

/-- THE SECOND FORM's CARD OF 'middenheaplaw15.ProgramTells'. -/
def programTellsUptoCard : Claim7 := { stood := { row := programTellsUptoRow, standIns := [], harness := (true, "223e735302b5b50a469fd6c0b229a80a075ed76d1c33257095e091b2cbd7ebe6"), looks := true }, kinds := [], alts := [], laidByText := true, laidKinds := [.data, .data, .data, .data, .sentinel, .sentinel, .pinned], laidTests := true, laidLooks := .later }
def ProgramTellsUptoCardSaid : Prop := Claim7.holds Tryd.pinned (.plain (OpenSpec.upto programTellsSpec)) programTellsUptoCard

/-- THE SECOND FORM's CARD OF 'middenheaplaw15.ProgramBack'. -/
def programBackUptoCard : Claim7 := { stood := { row := programBackUptoRow, standIns := [], harness := (true, "223e735302b5b50a469fd6c0b229a80a075ed76d1c33257095e091b2cbd7ebe6"), looks := true }, kinds := [], alts := [], laidByText := true, laidKinds := [.data, .data, .data, .data, .sentinel, .sentinel, .pinned], laidTests := true, laidLooks := .later }
def ProgramBackUptoCardSaid : Prop := Claim7.holds Tryd.pinned (.plain (OpenSpec.upto programBackSpec)) programBackUptoCard

/-- THE SECOND FORM's CARD OF 'middenheaplaw15.ProgramForth'. -/
def programForthUptoCard : Claim7 := { stood := { row := programForthUptoRow, standIns := [], harness := (true, "223e735302b5b50a469fd6c0b229a80a075ed76d1c33257095e091b2cbd7ebe6"), looks := true }, kinds := [], alts := [], laidByText := true, laidKinds := [.data, .data, .data, .data, .sentinel, .sentinel, .pinned], laidTests := true, laidLooks := .later }
def ProgramForthUptoCardSaid : Prop := Claim7.holds Tryd.pinned (.plain (OpenSpec.upto programForthSpec)) programForthUptoCard

/-- THE SECOND FORM's CARD OF 'middenheaplaw15.ProgramBounds'. -/
def programBoundsUptoCard : Claim7 := { stood := { row := programBoundsUptoRow, standIns := [], harness := (true, "223e735302b5b50a469fd6c0b229a80a075ed76d1c33257095e091b2cbd7ebe6"), looks := true }, kinds := [], alts := [], laidByText := true, laidKinds := [.data, .data, .data, .data, .sentinel, .sentinel, .pinned], laidTests := true, laidLooks := .later }
def ProgramBoundsUptoCardSaid : Prop := Claim7.holds Tryd.pinned (.plain (OpenSpec.upto programBoundsSpec)) programBoundsUptoCard

/-- THE SECOND FORM's CARD OF 'middenheaplaw15.ProgramLoose'. -/
def programLooseUptoCard : Claim7 := { stood := { row := programLooseUptoRow, standIns := [], harness := (true, "223e735302b5b50a469fd6c0b229a80a075ed76d1c33257095e091b2cbd7ebe6"), looks := true }, kinds := [], alts := [], laidByText := true, laidKinds := [.data, .data, .data, .data, .sentinel, .sentinel, .pinned], laidTests := true, laidLooks := .later }
def ProgramLooseUptoCardSaid : Prop := Claim7.holds Tryd.pinned (.plain (OpenSpec.upto programLooseSpec)) programLooseUptoCard

/-- THE SECOND FORM's CARD OF 'middenheaplaw15.ProgramWrong'. -/
def programWrongUptoCard : Claim7 := { stood := { row := programWrongUptoRow, standIns := [], harness := (true, "223e735302b5b50a469fd6c0b229a80a075ed76d1c33257095e091b2cbd7ebe6"), looks := true }, kinds := [], alts := [], laidByText := true, laidKinds := [.data, .data, .data, .data, .sentinel, .sentinel, .pinned], laidTests := true, laidLooks := .later }
def ProgramWrongUptoCardSaid : Prop := Claim7.holds Tryd.pinned (.plain (OpenSpec.upto programWrongSpec)) programWrongUptoCard
end Rows
end Go.Proofs.YtbjknkgefpeohaaDoor
