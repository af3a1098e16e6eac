/-
  DERIVED. GIVEN WITH THE SEED: THE CARDS: each row of YtjdelpelnjhidaaGreatDoorRows.lean that lists a variable, with what it lists TIED to the program's text (the seventh form; the later family's looks); each row that meets fmt, with fmt's text TOLD by the authors' own Lean function (tested against real Go, not proved from fmt's source: count such statements apart). THE CARD IS WHAT COUNTS. Prove the row's statement (the work); the ties are given (YtjdelpelnjhidaaGreatDoorTie.lean); close each card by the builder's one call (the guide's Derived/Test/ToyasCard.lean, 'card_holds'). Laid BY PROGRAM, IN A SANDBOX (cutbox-door.mjs). By AI agents, Wed Nov 11 2026. No macro, syntax, notation, axiom, sorry.
-/
import Derived.Test.YtjdelpelnjhidaaGreatDoorRows
import GoSem.ClaimSeven
namespace Go.Proofs.YtjdelpelnjhidaaGreatDoor
namespace Rows

/-- THE TIED CARD OF 'plumblaw14.FtoaForms'. -/
def ftoaFormsCard : Claim7 := { stood := { row := ftoaFormsRow, standIns := [], harness := (true, "79f64cbcd3c93f921a52fb25dd25d2ed0299091c4f550f3b3959985e0621db0a"), looks := false }, kinds := [], alts := [], laidByText := true, laidKinds := [.data, .data, .data, .data, .data, .pinned], laidTests := true, laidLooks := .later }
def FtoaFormsCardSaid : Prop := Claim7.holds Tryz.pinned (.plain (OpenSpec.ofChange ftoaFormsSpec)) ftoaFormsCard

/-- THE TIED CARD OF 'plumblaw14.FtoaOne'. -/
def ftoaOneCard : Claim7 := { stood := { row := ftoaOneRow, standIns := [], harness := (true, "79f64cbcd3c93f921a52fb25dd25d2ed0299091c4f550f3b3959985e0621db0a"), looks := false }, kinds := [], alts := [], laidByText := true, laidKinds := [.data, .data, .data, .data, .data, .pinned], laidTests := true, laidLooks := .later }
def FtoaOneCardSaid : Prop := Claim7.holds Tryz.pinned (.plain (OpenSpec.ofChange ftoaOneSpec)) ftoaOneCard

/-- THE TIED CARD OF 'plumblaw14.FtoaTexts'. -/
def ftoaTextsCard : Claim7 := { stood := { row := ftoaTextsRow, standIns := [], harness := (true, "79f64cbcd3c93f921a52fb25dd25d2ed0299091c4f550f3b3959985e0621db0a"), looks := false }, kinds := [], alts := [], laidByText := true, laidKinds := [.data, .data, .data, .data, .data, .pinned], laidTests := true, laidLooks := .later }
def FtoaTextsCardSaid : Prop := Claim7.holds Tryz.pinned (.plain (OpenSpec.ofChange ftoaTextsSpec)) ftoaTextsCard

/-- THE TIED CARD OF 'plumblaw14.FtoaRefuses'. -/
def ftoaRefusesCard : Claim7 := { stood := { row := ftoaRefusesRow, standIns := [], harness := (true, "79f64cbcd3c93f921a52fb25dd25d2ed0299091c4f550f3b3959985e0621db0a"), looks := false }, kinds := [], alts := [], laidByText := true, laidKinds := [.data, .data, .data, .data, .data, .pinned], laidTests := true, laidLooks := .later }
def FtoaRefusesCardSaid : Prop := Claim7.holds Tryz.pinned (.plain (OpenSpec.ofChange ftoaRefusesSpec)) ftoaRefusesCard

/-- THE SECOND FORM's CARD OF 'plumblaw14.FtoaForms'. -/
def ftoaFormsUptoCard : Claim7 := { stood := { row := ftoaFormsUptoRow, standIns := [], harness := (true, "79f64cbcd3c93f921a52fb25dd25d2ed0299091c4f550f3b3959985e0621db0a"), looks := false }, kinds := [], alts := [], laidByText := true, laidKinds := [.data, .data, .data, .data, .data, .pinned], laidTests := true, laidLooks := .later }
def FtoaFormsUptoCardSaid : Prop := Claim7.holds Tryz.pinned (.plain (OpenSpec.upto ftoaFormsSpec)) ftoaFormsUptoCard

/-- THE SECOND FORM's CARD OF 'plumblaw14.FtoaOne'. -/
def ftoaOneUptoCard : Claim7 := { stood := { row := ftoaOneUptoRow, standIns := [], harness := (true, "79f64cbcd3c93f921a52fb25dd25d2ed0299091c4f550f3b3959985e0621db0a"), looks := false }, kinds := [], alts := [], laidByText := true, laidKinds := [.data, .data, .data, .data, .data, .pinned], laidTests := true, laidLooks := .later }
def FtoaOneUptoCardSaid : Prop := Claim7.holds Tryz.pinned (.plain (OpenSpec.upto ftoaOneSpec)) ftoaOneUptoCard

/-- THE SECOND FORM's CARD OF 'plumblaw14.FtoaTexts'. -/
def ftoaTextsUptoCard : Claim7 := { stood := { row := ftoaTextsUptoRow, standIns := [], harness := (true, "79f64cbcd3c93f921a52fb25dd25d2ed0299091c4f550f3b3959985e0621db0a"), looks := false }, kinds := [], alts := [], laidByText := true, laidKinds := [.data, .data, .data, .data, .data, .pinned], laidTests := true, laidLooks := .later }
def FtoaTextsUptoCardSaid : Prop := Claim7.holds Tryz.pinned (.plain (OpenSpec.upto ftoaTextsSpec)) ftoaTextsUptoCard

/-- THE SECOND FORM's CARD OF 'plumblaw14.FtoaRefuses'. -/
def ftoaRefusesUptoCard : Claim7 := { stood := { row := ftoaRefusesUptoRow, standIns := [], harness := (true, "79f64cbcd3c93f921a52fb25dd25d2ed0299091c4f550f3b3959985e0621db0a"), looks := false }, kinds := [], alts := [], laidByText := true, laidKinds := [.data, .data, .data, .data, .data, .pinned], laidTests := true, laidLooks := .later }
def FtoaRefusesUptoCardSaid : Prop := Claim7.holds Tryz.pinned (.plain (OpenSpec.upto ftoaRefusesSpec)) ftoaRefusesUptoCard
end Rows
end Go.Proofs.YtjdelpelnjhidaaGreatDoor
