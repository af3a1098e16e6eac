/-
  DERIVED. GIVEN WITH THE SEED: THE CARDS: each row of YtlffgepnhhnadaaDoorRows.lean that lists a variable, with what it lists TIED to the program's text (the seventh form; the later family's looks); each row that meets fmt, with fmt's text TOLD by the authors' own Lean function (tested against real Go, not proved from fmt's source: count such statements apart). THE CARD IS WHAT COUNTS. Prove the row's statement (the work); the ties are given (YtlffgepnhhnadaaDoorTie.lean); close each card by the builder's one call (the guide's Derived/Test/ToyasCard.lean, 'card_holds'). Laid BY PROGRAM, IN A SANDBOX (cutbox-door.mjs). By AI agents, Wed Nov 11 2026. No macro, syntax, notation, axiom, sorry.
-/
import Derived.Test.YtlffgepnhhnadaaDoorRows
import GoSem.ClaimSeven
namespace Go.Proofs.YtlffgepnhhnadaaDoor
namespace Rows

/-- THE TIED CARD OF 'plumblaw14.FtoaPlains'. -/
def ftoaPlainsCard : Claim7 := { stood := { row := ftoaPlainsRow, standIns := [], harness := (true, "8294e2b4f09e4711e7cc9e853072d8ff0963710fc9a959f478cedd60eca7b26c"), looks := true }, kinds := [], alts := [], laidByText := true, laidKinds := [.data, .pinned], laidTests := true, laidLooks := .later }
def FtoaPlainsCardSaid : Prop := Claim7.holds Tryd.pinned (.plain (OpenSpec.ofChange ftoaPlainsSpec)) ftoaPlainsCard

/-- THE TIED CARD OF 'plumblaw27.StreamReads'. -/
def streamReadsCard : Claim7 := { stood := { row := streamReadsRow, standIns := [], harness := (true, "8294e2b4f09e4711e7cc9e853072d8ff0963710fc9a959f478cedd60eca7b26c"), looks := true }, kinds := [], alts := [], laidByText := true, laidKinds := [.handle], laidTests := true, laidLooks := .later }
def StreamReadsCardSaid : Prop := Claim7.holds Tryd.pinned (.plain (OpenSpec.ofChange streamReadsSpec)) streamReadsCard

/-- THE TIED CARD OF 'plumblaw27.StreamBack'. -/
def streamBackCard : Claim7 := { stood := { row := streamBackRow, standIns := [], harness := (true, "8294e2b4f09e4711e7cc9e853072d8ff0963710fc9a959f478cedd60eca7b26c"), looks := true }, kinds := [], alts := [], laidByText := true, laidKinds := [.handle], laidTests := true, laidLooks := .later }
def StreamBackCardSaid : Prop := Claim7.holds Tryd.pinned (.plain (OpenSpec.ofChange streamBackSpec)) streamBackCard

/-- THE TIED CARD OF 'plumblaw27.StreamSums'. -/
def streamSumsCard : Claim7 := { stood := { row := streamSumsRow, standIns := [], harness := (true, "8294e2b4f09e4711e7cc9e853072d8ff0963710fc9a959f478cedd60eca7b26c"), looks := true }, kinds := [], alts := [], laidByText := true, laidKinds := [.handle], laidTests := true, laidLooks := .later }
def StreamSumsCardSaid : Prop := Claim7.holds Tryd.pinned (.plain (OpenSpec.ofChange streamSumsSpec)) streamSumsCard

/-- THE TIED CARD OF 'plumblaw27.StreamFresh'. -/
def streamFreshCard : Claim7 := { stood := { row := streamFreshRow, standIns := [], harness := (true, "8294e2b4f09e4711e7cc9e853072d8ff0963710fc9a959f478cedd60eca7b26c"), looks := true }, kinds := [], alts := [], laidByText := true, laidKinds := [.handle], laidTests := true, laidLooks := .later }
def StreamFreshCardSaid : Prop := Claim7.holds Tryd.pinned (.plain (OpenSpec.ofChange streamFreshSpec)) streamFreshCard

/-- THE TIED CARD OF 'plumblaw27.StreamPieces'. -/
def streamPiecesCard : Claim7 := { stood := { row := streamPiecesRow, standIns := [], harness := (true, "8294e2b4f09e4711e7cc9e853072d8ff0963710fc9a959f478cedd60eca7b26c"), looks := true }, kinds := [], alts := [], laidByText := true, laidKinds := [.handle], laidTests := true, laidLooks := .later }
def StreamPiecesCardSaid : Prop := Claim7.holds Tryd.pinned (.plain (OpenSpec.ofChange streamPiecesSpec)) streamPiecesCard

/-- THE TIED CARD OF 'plumblaw27.StreamHurt'. -/
def streamHurtCard : Claim7 := { stood := { row := streamHurtRow, standIns := [], harness := (true, "8294e2b4f09e4711e7cc9e853072d8ff0963710fc9a959f478cedd60eca7b26c"), looks := true }, kinds := [], alts := [], laidByText := true, laidKinds := [.handle], laidTests := true, laidLooks := .later }
def StreamHurtCardSaid : Prop := Claim7.holds Tryd.pinned (.plain (OpenSpec.ofChange streamHurtSpec)) streamHurtCard

/-- THE TIED CARD OF 'plumblaw27.StreamHeads'. -/
def streamHeadsCard : Claim7 := { stood := { row := streamHeadsRow, standIns := [], harness := (true, "8294e2b4f09e4711e7cc9e853072d8ff0963710fc9a959f478cedd60eca7b26c"), looks := true }, kinds := [], alts := [], laidByText := true, laidKinds := [.handle], laidTests := true, laidLooks := .later }
def StreamHeadsCardSaid : Prop := Claim7.holds Tryd.pinned (.plain (OpenSpec.ofChange streamHeadsSpec)) streamHeadsCard

/-- THE TIED CARD OF 'plumblaw27.StreamSaved'. -/
def streamSavedCard : Claim7 := { stood := { row := streamSavedRow, standIns := [], harness := (true, "8294e2b4f09e4711e7cc9e853072d8ff0963710fc9a959f478cedd60eca7b26c"), looks := true }, kinds := [], alts := [], laidByText := true, laidKinds := [.handle], laidTests := true, laidLooks := .later }
def StreamSavedCardSaid : Prop := Claim7.holds Tryd.pinned (.plain (OpenSpec.ofChange streamSavedSpec)) streamSavedCard

/-- THE SECOND FORM's CARD OF 'plumblaw14.FtoaPlains'. -/
def ftoaPlainsUptoCard : Claim7 := { stood := { row := ftoaPlainsUptoRow, standIns := [], harness := (true, "8294e2b4f09e4711e7cc9e853072d8ff0963710fc9a959f478cedd60eca7b26c"), looks := true }, kinds := [], alts := [], laidByText := true, laidKinds := [.data, .pinned], laidTests := true, laidLooks := .later }
def FtoaPlainsUptoCardSaid : Prop := Claim7.holds Tryd.pinned (.plain (OpenSpec.upto ftoaPlainsSpec)) ftoaPlainsUptoCard

/-- THE SECOND FORM's CARD OF 'plumblaw27.StreamReads'. -/
def streamReadsUptoCard : Claim7 := { stood := { row := streamReadsUptoRow, standIns := [], harness := (true, "8294e2b4f09e4711e7cc9e853072d8ff0963710fc9a959f478cedd60eca7b26c"), looks := true }, kinds := [], alts := [], laidByText := true, laidKinds := [.handle], laidTests := true, laidLooks := .later }
def StreamReadsUptoCardSaid : Prop := Claim7.holds Tryd.pinned (.plain (OpenSpec.upto streamReadsSpec)) streamReadsUptoCard

/-- THE SECOND FORM's CARD OF 'plumblaw27.StreamBack'. -/
def streamBackUptoCard : Claim7 := { stood := { row := streamBackUptoRow, standIns := [], harness := (true, "8294e2b4f09e4711e7cc9e853072d8ff0963710fc9a959f478cedd60eca7b26c"), looks := true }, kinds := [], alts := [], laidByText := true, laidKinds := [.handle], laidTests := true, laidLooks := .later }
def StreamBackUptoCardSaid : Prop := Claim7.holds Tryd.pinned (.plain (OpenSpec.upto streamBackSpec)) streamBackUptoCard

/-- THE SECOND FORM's CARD OF 'plumblaw27.StreamSums'. -/
def streamSumsUptoCard : Claim7 := { stood := { row := streamSumsUptoRow, standIns := [], harness := (true, "8294e2b4f09e4711e7cc9e853072d8ff0963710fc9a959f478cedd60eca7b26c"), looks := true }, kinds := [], alts := [], laidByText := true, laidKinds := [.handle], laidTests := true, laidLooks := .later }
def StreamSumsUptoCardSaid : Prop := Claim7.holds Tryd.pinned (.plain (OpenSpec.upto streamSumsSpec)) streamSumsUptoCard

/-- THE SECOND FORM's CARD OF 'plumblaw27.StreamFresh'. -/
def streamFreshUptoCard : Claim7 := { stood := { row := streamFreshUptoRow, standIns := [], harness := (true, "8294e2b4f09e4711e7cc9e853072d8ff0963710fc9a959f478cedd60eca7b26c"), looks := true }, kinds := [], alts := [], laidByText := true, laidKinds := [.handle], laidTests := true, laidLooks := .later }
def StreamFreshUptoCardSaid : Prop := Claim7.holds Tryd.pinned (.plain (OpenSpec.upto streamFreshSpec)) streamFreshUptoCard

/-- THE SECOND FORM's CARD OF 'plumblaw27.StreamPieces'. -/
def streamPiecesUptoCard : Claim7 := { stood := { row := streamPiecesUptoRow, standIns := [], harness := (true, "8294e2b4f09e4711e7cc9e853072d8ff0963710fc9a959f478cedd60eca7b26c"), looks := true }, kinds := [], alts := [], laidByText := true, laidKinds := [.handle], laidTests := true, laidLooks := .later }
def StreamPiecesUptoCardSaid : Prop := Claim7.holds Tryd.pinned (.plain (OpenSpec.upto streamPiecesSpec)) streamPiecesUptoCard

/-- THE SECOND FORM's CARD OF 'plumblaw27.StreamHurt'. -/
def streamHurtUptoCard : Claim7 := { stood := { row := streamHurtUptoRow, standIns := [], harness := (true, "8294e2b4f09e4711e7cc9e853072d8ff0963710fc9a959f478cedd60eca7b26c"), looks := true }, kinds := [], alts := [], laidByText := true, laidKinds := [.handle], laidTests := true, laidLooks := .later }
def StreamHurtUptoCardSaid : Prop := Claim7.holds Tryd.pinned (.plain (OpenSpec.upto streamHurtSpec)) streamHurtUptoCard

/-- THE SECOND FORM's CARD OF 'plumblaw27.StreamHeads'. -/
def streamHeadsUptoCard : Claim7 := { stood := { row := streamHeadsUptoRow, standIns := [], harness := (true, "8294e2b4f09e4711e7cc9e853072d8ff0963710fc9a959f478cedd60eca7b26c"), looks := true }, kinds := [], alts := [], laidByText := true, laidKinds := [.handle], laidTests := true, laidLooks := .later }
def StreamHeadsUptoCardSaid : Prop := Claim7.holds Tryd.pinned (.plain (OpenSpec.upto streamHeadsSpec)) streamHeadsUptoCard

/-- THE SECOND FORM's CARD OF 'plumblaw27.StreamSaved'. -/
def streamSavedUptoCard : Claim7 := { stood := { row := streamSavedUptoRow, standIns := [], harness := (true, "8294e2b4f09e4711e7cc9e853072d8ff0963710fc9a959f478cedd60eca7b26c"), looks := true }, kinds := [], alts := [], laidByText := true, laidKinds := [.handle], laidTests := true, laidLooks := .later }
def StreamSavedUptoCardSaid : Prop := Claim7.holds Tryd.pinned (.plain (OpenSpec.upto streamSavedSpec)) streamSavedUptoCard
end Rows
end Go.Proofs.YtlffgepnhhnadaaDoor
