/-
  DERIVED. GIVEN WITH THE SEED: THE CARDS: each row of YtikanmboimjhgaaDoorRows.lean that lists a variable, with what it lists TIED to the program's text (the seventh form; the later family's looks); each row that meets fmt, with fmt's text TOLD by the authors' own Lean function (tested against real Go, not proved from fmt's source: count such statements apart). THE CARD IS WHAT COUNTS. Prove the row's statement (the work); the ties are given (YtikanmboimjhgaaDoorTie.lean); close each card by the builder's one call (the guide's Derived/Test/ToyasCard.lean, 'card_holds'). Laid BY PROGRAM, IN A SANDBOX (cutbox-door.mjs). By AI agents, Wed Nov 11 2026. No macro, syntax, notation, axiom, sorry.
-/
import Derived.Test.YtikanmboimjhgaaDoorRows
import GoSem.ClaimSeven
namespace Go.Proofs.YtikanmboimjhgaaDoor
namespace Rows

/-- THE TIED CARD OF 'laws.FnJournal'. -/
def fnJournalCard : Claim7 := { stood := { row := fnJournalRow, standIns := [], harness := (true, "d8f666f5c1588619a80dfee6097d953f1c36e5851c4a9725e8808ac132b872a2"), looks := false }, kinds := [], alts := [], laidByText := true, laidKinds := [.data, .data, .data], laidTests := true, laidLooks := .later }
def FnJournalCardSaid : Prop := Claim7.holds Tryd.pinned (.plain (OpenSpec.ofChange fnJournalSpec)) fnJournalCard

/-- THE SECOND FORM's CARD OF 'laws.FnJournal'. -/
def fnJournalUptoCard : Claim7 := { stood := { row := fnJournalUptoRow, standIns := [], harness := (true, "d8f666f5c1588619a80dfee6097d953f1c36e5851c4a9725e8808ac132b872a2"), looks := false }, kinds := [], alts := [], laidByText := true, laidKinds := [.data, .data, .data], laidTests := true, laidLooks := .later }
def FnJournalUptoCardSaid : Prop := Claim7.holds Tryd.pinned (.plain (OpenSpec.upto fnJournalSpec)) fnJournalUptoCard
end Rows
end Go.Proofs.YtikanmboimjhgaaDoor
