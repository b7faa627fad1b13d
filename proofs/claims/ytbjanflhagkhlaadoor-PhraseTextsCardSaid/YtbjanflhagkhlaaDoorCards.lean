/-
  DERIVED. GIVEN WITH THE SEED: THE CARDS: each row of YtbjanflhagkhlaaDoorRows.lean that lists a variable, with what it lists TIED to the program's text (the seventh form; the later family's looks); each row that meets fmt, with fmt's text TOLD by the authors' own Lean function (tested against real Go, not proved from fmt's source: count such statements apart). THE CARD IS WHAT COUNTS. Prove the row's statement (the work); the ties are given (YtbjanflhagkhlaaDoorTie.lean); close each card by the builder's one call (the guide's Derived/Test/ToyasCard.lean, 'card_holds'). Laid BY PROGRAM, IN A SANDBOX (cutbox-door.mjs). By AI agents, Wed Nov 11 2026. No macro, syntax, notation, axiom, sorry.
-/
import Derived.Test.YtbjanflhagkhlaaDoorRows
import GoSem.ClaimSeven
namespace Go.Proofs.YtbjanflhagkhlaaDoor
namespace Rows

/-- THE TIED CARD OF 'skywaytop.TopSaid'. -/
def topSaidCard : Claim7 := { stood := { row := topSaidRow, standIns := [], harness := (true, "84a7f7d77c5aefa95b07cc78235170bb3cbf4b3c60dfaf19432639a1553b7b2c"), looks := true }, kinds := [], alts := [], laidByText := true, laidKinds := [.data, .data, .data, .data, .sentinel, .sentinel, .data, .data, .pinned], laidTests := true, laidLooks := .later }
def TopSaidCardSaid : Prop := Claim7.holds Tryd.pinned (.plain (OpenSpec.ofChange topSaidSpec)) topSaidCard

/-- THE TIED CARD OF 'skywaylaw3.PhraseTexts'. -/
def phraseTextsCard : Claim7 := { stood := { row := phraseTextsRow, standIns := [], harness := (true, "84a7f7d77c5aefa95b07cc78235170bb3cbf4b3c60dfaf19432639a1553b7b2c"), looks := true }, kinds := [], alts := [], laidByText := true, laidKinds := [.data, .data, .data, .data, .sentinel, .sentinel, .data, .data, .pinned], laidTests := true, laidLooks := .later }
def PhraseTextsCardSaid : Prop := Claim7.holds Tryd.pinned (.plain (OpenSpec.ofChange phraseTextsSpec)) phraseTextsCard

/-- THE SECOND FORM's CARD OF 'skywaytop.TopSaid'. -/
def topSaidUptoCard : Claim7 := { stood := { row := topSaidUptoRow, standIns := [], harness := (true, "84a7f7d77c5aefa95b07cc78235170bb3cbf4b3c60dfaf19432639a1553b7b2c"), looks := true }, kinds := [], alts := [], laidByText := true, laidKinds := [.data, .data, .data, .data, .sentinel, .sentinel, .data, .data, .pinned], laidTests := true, laidLooks := .later }
def TopSaidUptoCardSaid : Prop := Claim7.holds Tryd.pinned (.plain (OpenSpec.upto topSaidSpec)) topSaidUptoCard

/-- THE SECOND FORM's CARD OF 'skywaylaw3.PhraseTexts'. -/
def phraseTextsUptoCard : Claim7 := { stood := { row := phraseTextsUptoRow, standIns := [], harness := (true, "84a7f7d77c5aefa95b07cc78235170bb3cbf4b3c60dfaf19432639a1553b7b2c"), looks := true }, kinds := [], alts := [], laidByText := true, laidKinds := [.data, .data, .data, .data, .sentinel, .sentinel, .data, .data, .pinned], laidTests := true, laidLooks := .later }
def PhraseTextsUptoCardSaid : Prop := Claim7.holds Tryd.pinned (.plain (OpenSpec.upto phraseTextsSpec)) phraseTextsUptoCard
end Rows
end Go.Proofs.YtbjanflhagkhlaaDoor
