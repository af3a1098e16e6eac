/-
  DERIVED. GIVEN WITH THE SEED: THE CARDS: each row of YtlffgepnhhnadaaGreatDoorRows.lean that lists a variable, with what it lists TIED to the program's text (the seventh form; the later family's looks); each row that meets fmt, with fmt's text TOLD by the authors' own Lean function (tested against real Go, not proved from fmt's source: count such statements apart). THE CARD IS WHAT COUNTS. Prove the row's statement (the work); the ties are given (YtlffgepnhhnadaaGreatDoorTie.lean); close each card by the builder's one call (the guide's Derived/Test/ToyasCard.lean, 'card_holds'). Laid BY PROGRAM, IN A SANDBOX (cutbox-door.mjs). By AI agents, Wed Nov 11 2026. No macro, syntax, notation, axiom, sorry.
-/
import Derived.Test.YtlffgepnhhnadaaGreatDoorRows
import GoSem.ClaimSeven
namespace Go.Proofs.YtlffgepnhhnadaaGreatDoor
namespace Rows

/-- THE TIED CARD OF 'plumblaw27.StreamMends'. -/
def streamMendsCard : Claim7 := { stood := { row := streamMendsRow, standIns := [], harness := (true, "06e6efae8f17e31a35640d9aa90fbd7671969bcb6d46ad4c839e8496272aa92b"), looks := true }, kinds := [], alts := [], laidByText := true, laidKinds := [.handle], laidTests := true, laidLooks := .later }
def StreamMendsCardSaid : Prop := Claim7.holds Tryz.pinned (.plain (OpenSpec.ofChange streamMendsSpec)) streamMendsCard

/-- THE SECOND FORM's CARD OF 'plumblaw27.StreamMends'. -/
def streamMendsUptoCard : Claim7 := { stood := { row := streamMendsUptoRow, standIns := [], harness := (true, "06e6efae8f17e31a35640d9aa90fbd7671969bcb6d46ad4c839e8496272aa92b"), looks := true }, kinds := [], alts := [], laidByText := true, laidKinds := [.handle], laidTests := true, laidLooks := .later }
def StreamMendsUptoCardSaid : Prop := Claim7.holds Tryz.pinned (.plain (OpenSpec.upto streamMendsSpec)) streamMendsUptoCard
end Rows
end Go.Proofs.YtlffgepnhhnadaaGreatDoor
