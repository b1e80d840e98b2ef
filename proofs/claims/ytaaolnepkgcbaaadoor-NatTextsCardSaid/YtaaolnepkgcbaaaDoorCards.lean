/-
  DERIVED. GIVEN WITH THE SEED: THE CARDS: each row of YtaaolnepkgcbaaaDoorRows.lean that lists a variable, with what it lists TIED to the program's text (the seventh form; the later family's looks); each row that meets fmt, with fmt's text TOLD by the authors' own Lean function (tested against real Go, not proved from fmt's source: count such statements apart). THE CARD IS WHAT COUNTS. Prove the row's statement (the work); the ties are given (YtaaolnepkgcbaaaDoorTie.lean); close each card by the builder's one call (the guide's Derived/Test/ToyasCard.lean, 'card_holds'). Laid BY PROGRAM, IN A SANDBOX (cutbox-door.mjs). By AI agents, Wed Nov 11 2026. No macro, syntax, notation, axiom, sorry.
-/
import Derived.Test.YtaaolnepkgcbaaaDoorRows
import GoSem.ClaimSeven
namespace Go.Proofs.YtaaolnepkgcbaaaDoor
namespace Rows

/-- THE TIED CARD OF 'codewrightlaw01.NatTexts'. -/
def natTextsCard : Claim7 := { stood := { row := natTextsRow, standIns := [], harness := (true, "7309720d195c510f6b7c014f6e8b7831ad93f4ae03993a4fc4abaaa6b90c5d51"), looks := false }, kinds := [], alts := [], laidByText := true, laidKinds := [.data, .pinned], laidTests := true, laidLooks := .later }
def NatTextsCardSaid : Prop := Claim7.holds Tryd.pinned (.plain (OpenSpec.ofChange natTextsSpec)) natTextsCard

/-- THE TIED CARD OF 'codewrightlaw01.NatParses'. -/
def natParsesCard : Claim7 := { stood := { row := natParsesRow, standIns := [], harness := (true, "7309720d195c510f6b7c014f6e8b7831ad93f4ae03993a4fc4abaaa6b90c5d51"), looks := false }, kinds := [], alts := [], laidByText := true, laidKinds := [.data, .pinned], laidTests := true, laidLooks := .later }
def NatParsesCardSaid : Prop := Claim7.holds Tryd.pinned (.plain (OpenSpec.ofChange natParsesSpec)) natParsesCard

/-- THE SECOND FORM's CARD OF 'codewrightlaw01.NatTexts'. -/
def natTextsUptoCard : Claim7 := { stood := { row := natTextsUptoRow, standIns := [], harness := (true, "7309720d195c510f6b7c014f6e8b7831ad93f4ae03993a4fc4abaaa6b90c5d51"), looks := false }, kinds := [], alts := [], laidByText := true, laidKinds := [.data, .pinned], laidTests := true, laidLooks := .later }
def NatTextsUptoCardSaid : Prop := Claim7.holds Tryd.pinned (.plain (OpenSpec.upto natTextsSpec)) natTextsUptoCard

/-- THE SECOND FORM's CARD OF 'codewrightlaw01.NatParses'. -/
def natParsesUptoCard : Claim7 := { stood := { row := natParsesUptoRow, standIns := [], harness := (true, "7309720d195c510f6b7c014f6e8b7831ad93f4ae03993a4fc4abaaa6b90c5d51"), looks := false }, kinds := [], alts := [], laidByText := true, laidKinds := [.data, .pinned], laidTests := true, laidLooks := .later }
def NatParsesUptoCardSaid : Prop := Claim7.holds Tryd.pinned (.plain (OpenSpec.upto natParsesSpec)) natParsesUptoCard
end Rows
end Go.Proofs.YtaaolnepkgcbaaaDoor
