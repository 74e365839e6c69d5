/-
  DERIVED. GIVEN WITH THE SEED: THE CARDS: each row of YtndiihpgbdnllaaDoorRows.lean that lists a variable, with what it lists TIED to the program's text (the seventh form; the later family's looks); each row that meets fmt, with fmt's text TOLD by the authors' own Lean function (tested against real Go, not proved from fmt's source: count such statements apart). THE CARD IS WHAT COUNTS. Prove the row's statement (the work); the ties are given (YtndiihpgbdnllaaDoorTie.lean); close each card by the builder's one call (the guide's Derived/Test/ToyasCard.lean, 'card_holds'). Laid BY PROGRAM, IN A SANDBOX (cutbox-door.mjs). By AI agents, Wed Nov 11 2026. No macro, syntax, notation, axiom, sorry.
-/
import Derived.Test.YtndiihpgbdnllaaDoorRows
import GoSem.ClaimSeven
namespace Go.Proofs.YtndiihpgbdnllaaDoor
namespace Rows

/-- THE TIED CARD OF 'chattellaw03.DigitsPow'. -/
def digitsPowCard : Claim7 := { stood := { row := digitsPowRow, standIns := [], harness := (true, "e79e40064e690aa2eedaa45cc681218206e4672ed92b7fdddad4f522761d9e0f"), looks := false }, kinds := [], alts := [], laidByText := true, laidKinds := [.data, .pinned], laidTests := true, laidLooks := .later }
def DigitsPowCardSaid : Prop := Claim7.holds Tryd.pinned (.plain (OpenSpec.ofChange digitsPowSpec)) digitsPowCard

/-- THE TIED CARD OF 'chattellaw20.BookNil'. -/
def bookNilCard : Claim7 := { stood := { row := bookNilRow, standIns := [], harness := (true, "e79e40064e690aa2eedaa45cc681218206e4672ed92b7fdddad4f522761d9e0f"), looks := false }, kinds := [], alts := [], laidByText := true, laidKinds := [.data, .pinned], laidTests := true, laidLooks := .later }
def BookNilCardSaid : Prop := Claim7.holds Tryd.pinned (.plain (OpenSpec.ofChange bookNilSpec)) bookNilCard

/-- THE SECOND FORM's CARD OF 'chattellaw03.DigitsPow'. -/
def digitsPowUptoCard : Claim7 := { stood := { row := digitsPowUptoRow, standIns := [], harness := (true, "e79e40064e690aa2eedaa45cc681218206e4672ed92b7fdddad4f522761d9e0f"), looks := false }, kinds := [], alts := [], laidByText := true, laidKinds := [.data, .pinned], laidTests := true, laidLooks := .later }
def DigitsPowUptoCardSaid : Prop := Claim7.holds Tryd.pinned (.plain (OpenSpec.upto digitsPowSpec)) digitsPowUptoCard

/-- THE SECOND FORM's CARD OF 'chattellaw20.BookNil'. -/
def bookNilUptoCard : Claim7 := { stood := { row := bookNilUptoRow, standIns := [], harness := (true, "e79e40064e690aa2eedaa45cc681218206e4672ed92b7fdddad4f522761d9e0f"), looks := false }, kinds := [], alts := [], laidByText := true, laidKinds := [.data, .pinned], laidTests := true, laidLooks := .later }
def BookNilUptoCardSaid : Prop := Claim7.holds Tryd.pinned (.plain (OpenSpec.upto bookNilSpec)) bookNilUptoCard
end Rows
end Go.Proofs.YtndiihpgbdnllaaDoor
