/-
  DERIVED. GIVEN WITH THE SEED: THE CARDS: each row of YtcmcacophbbagaaDoorRows.lean that lists a variable, with what it lists TIED to the program's text (the seventh form; the later family's looks); each row that meets fmt, with fmt's text TOLD by the authors' own Lean function (tested against real Go, not proved from fmt's source: count such statements apart). THE CARD IS WHAT COUNTS. Prove the row's statement (the work); the ties are given (YtcmcacophbbagaaDoorTie.lean); close each card by the builder's one call (the guide's Derived/Test/ToyasCard.lean, 'card_holds'). Laid BY PROGRAM, IN A SANDBOX (cutbox-door.mjs). By AI agents, Wed Nov 11 2026. No macro, syntax, notation, axiom, sorry.
-/
import Derived.Test.YtcmcacophbbagaaDoorRows
import GoSem.ClaimSeven
namespace Go.Proofs.YtcmcacophbbagaaDoor
namespace Rows

/-- THE TIED CARD OF 'skywaylaw3.ReadbackDiffers'. -/
def readbackDiffersCard : Claim7 := { stood := { row := readbackDiffersRow, standIns := [], harness := (true, "1ccc837e0c21993b1abaf39dcfef220c21741f7269be1b7ccd1a37a4d7e1c966"), looks := true }, kinds := [], alts := [], laidByText := true, laidKinds := [.data, .data], laidTests := true, laidLooks := .later }
def ReadbackDiffersCardSaid : Prop := Claim7.holds Tryd.pinned (.plain (OpenSpec.ofChange readbackDiffersSpec)) readbackDiffersCard

/-- THE TIED CARD OF 'skywaylaw3.ReadbackSays'. -/
def readbackSaysCard : Claim7 := { stood := { row := readbackSaysRow, standIns := [], harness := (true, "1ccc837e0c21993b1abaf39dcfef220c21741f7269be1b7ccd1a37a4d7e1c966"), looks := true }, kinds := [], alts := [], laidByText := true, laidKinds := [.data, .data], laidTests := true, laidLooks := .later }
def ReadbackSaysCardSaid : Prop := Claim7.holds Tryd.pinned (.plain (OpenSpec.ofChange readbackSaysSpec)) readbackSaysCard

/-- THE TIED CARD OF 'skywaytop.TopSaid'. -/
def topSaidCard : Claim7 := { stood := { row := topSaidRow, standIns := [], harness := (true, "1ccc837e0c21993b1abaf39dcfef220c21741f7269be1b7ccd1a37a4d7e1c966"), looks := true }, kinds := [], alts := [], laidByText := true, laidKinds := [.data, .data, .data, .data, .sentinel, .sentinel, .data, .data, .pinned], laidTests := true, laidLooks := .later }
def TopSaidCardSaid : Prop := Claim7.holds Tryd.pinned (.plain (OpenSpec.ofChange topSaidSpec)) topSaidCard

/-- THE TIED CARD OF 'skywaylaw3.ReadbackHears'. -/
def readbackHearsCard : Claim7 := { stood := { row := readbackHearsRow, standIns := [], harness := (true, "1ccc837e0c21993b1abaf39dcfef220c21741f7269be1b7ccd1a37a4d7e1c966"), looks := true }, kinds := [], alts := [], laidByText := true, laidKinds := [.data, .data], laidTests := true, laidLooks := .later }
def ReadbackHearsCardSaid : Prop := Claim7.holds Tryd.pinned (.plain (OpenSpec.ofChange readbackHearsSpec)) readbackHearsCard

/-- THE TIED CARD OF 'skywaylaw3.ReadbackLapses'. -/
def readbackLapsesCard : Claim7 := { stood := { row := readbackLapsesRow, standIns := [], harness := (true, "1ccc837e0c21993b1abaf39dcfef220c21741f7269be1b7ccd1a37a4d7e1c966"), looks := true }, kinds := [], alts := [], laidByText := true, laidKinds := [.data, .data], laidTests := true, laidLooks := .later }
def ReadbackLapsesCardSaid : Prop := Claim7.holds Tryd.pinned (.plain (OpenSpec.ofChange readbackLapsesSpec)) readbackLapsesCard

/-- THE TIED CARD OF 'skywaylaw3.PhraseTexts'. -/
def phraseTextsCard : Claim7 := { stood := { row := phraseTextsRow, standIns := [], harness := (true, "1ccc837e0c21993b1abaf39dcfef220c21741f7269be1b7ccd1a37a4d7e1c966"), looks := true }, kinds := [], alts := [], laidByText := true, laidKinds := [.data, .data, .data, .data, .sentinel, .sentinel, .data, .data, .pinned], laidTests := true, laidLooks := .later }
def PhraseTextsCardSaid : Prop := Claim7.holds Tryd.pinned (.plain (OpenSpec.ofChange phraseTextsSpec)) phraseTextsCard

/-- THE SECOND FORM's CARD OF 'skywaylaw3.ReadbackDiffers'. -/
def readbackDiffersUptoCard : Claim7 := { stood := { row := readbackDiffersUptoRow, standIns := [], harness := (true, "1ccc837e0c21993b1abaf39dcfef220c21741f7269be1b7ccd1a37a4d7e1c966"), looks := true }, kinds := [], alts := [], laidByText := true, laidKinds := [.data, .data], laidTests := true, laidLooks := .later }
def ReadbackDiffersUptoCardSaid : Prop := Claim7.holds Tryd.pinned (.plain (OpenSpec.upto readbackDiffersSpec)) readbackDiffersUptoCard

/-- THE SECOND FORM's CARD OF 'skywaylaw3.ReadbackSays'. -/
def readbackSaysUptoCard : Claim7 := { stood := { row := readbackSaysUptoRow, standIns := [], harness := (true, "1ccc837e0c21993b1abaf39dcfef220c21741f7269be1b7ccd1a37a4d7e1c966"), looks := true }, kinds := [], alts := [], laidByText := true, laidKinds := [.data, .data], laidTests := true, laidLooks := .later }
def ReadbackSaysUptoCardSaid : Prop := Claim7.holds Tryd.pinned (.plain (OpenSpec.upto readbackSaysSpec)) readbackSaysUptoCard

/-- THE SECOND FORM's CARD OF 'skywaytop.TopSaid'. -/
def topSaidUptoCard : Claim7 := { stood := { row := topSaidUptoRow, standIns := [], harness := (true, "1ccc837e0c21993b1abaf39dcfef220c21741f7269be1b7ccd1a37a4d7e1c966"), looks := true }, kinds := [], alts := [], laidByText := true, laidKinds := [.data, .data, .data, .data, .sentinel, .sentinel, .data, .data, .pinned], laidTests := true, laidLooks := .later }
def TopSaidUptoCardSaid : Prop := Claim7.holds Tryd.pinned (.plain (OpenSpec.upto topSaidSpec)) topSaidUptoCard

/-- THE SECOND FORM's CARD OF 'skywaylaw3.ReadbackHears'. -/
def readbackHearsUptoCard : Claim7 := { stood := { row := readbackHearsUptoRow, standIns := [], harness := (true, "1ccc837e0c21993b1abaf39dcfef220c21741f7269be1b7ccd1a37a4d7e1c966"), looks := true }, kinds := [], alts := [], laidByText := true, laidKinds := [.data, .data], laidTests := true, laidLooks := .later }
def ReadbackHearsUptoCardSaid : Prop := Claim7.holds Tryd.pinned (.plain (OpenSpec.upto readbackHearsSpec)) readbackHearsUptoCard

/-- THE SECOND FORM's CARD OF 'skywaylaw3.ReadbackLapses'. -/
def readbackLapsesUptoCard : Claim7 := { stood := { row := readbackLapsesUptoRow, standIns := [], harness := (true, "1ccc837e0c21993b1abaf39dcfef220c21741f7269be1b7ccd1a37a4d7e1c966"), looks := true }, kinds := [], alts := [], laidByText := true, laidKinds := [.data, .data], laidTests := true, laidLooks := .later }
def ReadbackLapsesUptoCardSaid : Prop := Claim7.holds Tryd.pinned (.plain (OpenSpec.upto readbackLapsesSpec)) readbackLapsesUptoCard

/-- THE SECOND FORM's CARD OF 'skywaylaw3.PhraseTexts'. -/
def phraseTextsUptoCard : Claim7 := { stood := { row := phraseTextsUptoRow, standIns := [], harness := (true, "1ccc837e0c21993b1abaf39dcfef220c21741f7269be1b7ccd1a37a4d7e1c966"), looks := true }, kinds := [], alts := [], laidByText := true, laidKinds := [.data, .data, .data, .data, .sentinel, .sentinel, .data, .data, .pinned], laidTests := true, laidLooks := .later }
def PhraseTextsUptoCardSaid : Prop := Claim7.holds Tryd.pinned (.plain (OpenSpec.upto phraseTextsSpec)) phraseTextsUptoCard
end Rows
end Go.Proofs.YtcmcacophbbagaaDoor
