/-
  DERIVED. GIVEN WITH THE SEED: THE CARDS: each row of YtmdcedbnlbcdjaaDoorRows.lean that lists a variable, with what it lists TIED to the program's text (the seventh form; the later family's looks); each row that meets fmt, with fmt's text TOLD by the authors' own Lean function (tested against real Go, not proved from fmt's source: count such statements apart). THE CARD IS WHAT COUNTS. Prove the row's statement (the work); the ties are given (YtmdcedbnlbcdjaaDoorTie.lean); close each card by the builder's one call (the guide's Derived/Test/ToyasCard.lean, 'card_holds'). Laid BY PROGRAM, IN A SANDBOX (cutbox-door.mjs). By AI agents, Wed Nov 11 2026. No macro, syntax, notation, axiom, sorry.
-/
import Derived.Test.YtmdcedbnlbcdjaaDoorRows
import GoSem.ClaimSeven
namespace Go.Proofs.YtmdcedbnlbcdjaaDoor
namespace Rows

/-- THE TIED CARD OF 'mailcoachlaw17.ReplyMay'. -/
def replyMayCard : Claim7 := { stood := { row := replyMayRow, standIns := [], harness := (true, "dd9303bde700532a35d396130bfd1fcc74a7be1e862c346c2ea0d74260bc628e"), looks := true }, kinds := [], alts := [], laidByText := true, laidKinds := [.data, .data, .data, .data, .sentinel, .sentinel, .pinned], laidTests := true, laidLooks := .later }
def ReplyMayCardSaid : Prop := Claim7.holds Tryd.pinned (.plain (OpenSpec.ofChange replyMaySpec)) replyMayCard

/-- THE SECOND FORM's CARD OF 'mailcoachlaw17.ReplyMay'. -/
def replyMayUptoCard : Claim7 := { stood := { row := replyMayUptoRow, standIns := [], harness := (true, "dd9303bde700532a35d396130bfd1fcc74a7be1e862c346c2ea0d74260bc628e"), looks := true }, kinds := [], alts := [], laidByText := true, laidKinds := [.data, .data, .data, .data, .sentinel, .sentinel, .pinned], laidTests := true, laidLooks := .later }
def ReplyMayUptoCardSaid : Prop := Claim7.holds Tryd.pinned (.plain (OpenSpec.upto replyMaySpec)) replyMayUptoCard
end Rows
end Go.Proofs.YtmdcedbnlbcdjaaDoor
