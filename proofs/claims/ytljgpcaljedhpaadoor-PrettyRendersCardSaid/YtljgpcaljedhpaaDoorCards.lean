/-
  DERIVED. GIVEN WITH THE SEED: THE CARDS: each row of YtljgpcaljedhpaaDoorRows.lean that lists a variable, with what it lists TIED to the program's text (the seventh form; the later family's looks); each row that meets fmt, with fmt's text TOLD by the authors' own Lean function (tested against real Go, not proved from fmt's source: count such statements apart). THE CARD IS WHAT COUNTS. Prove the row's statement (the work); the ties are given (YtljgpcaljedhpaaDoorTie.lean); close each card by the builder's one call (the guide's Derived/Test/ToyasCard.lean, 'card_holds'). Laid BY PROGRAM, IN A SANDBOX (cutbox-door.mjs). By AI agents, Wed Nov 11 2026. No macro, syntax, notation, axiom, sorry.
-/
import Derived.Test.YtljgpcaljedhpaaDoorRows
import GoSem.ClaimSeven
namespace Go.Proofs.YtljgpcaljedhpaaDoor
namespace Rows

/-- THE TIED CARD OF 'commonformlaw09.PrettyBlocks'. -/
def prettyBlocksCard : Claim7 := { stood := { row := prettyBlocksRow, standIns := [], harness := (true, "df80bc9e375864c607b8dcd5f05faf5377d097e30f8c9d3a99dc119b60d159be"), looks := true }, kinds := [], alts := [], laidByText := true, laidKinds := [.data, .pinned], laidTests := true, laidLooks := .later }
def PrettyBlocksCardSaid : Prop := Claim7.holds Tryd.pinned (.plain (OpenSpec.ofChange prettyBlocksSpec)) prettyBlocksCard

/-- THE TIED CARD OF 'commonformlaw09.PrettyFlats'. -/
def prettyFlatsCard : Claim7 := { stood := { row := prettyFlatsRow, standIns := [], harness := (true, "df80bc9e375864c607b8dcd5f05faf5377d097e30f8c9d3a99dc119b60d159be"), looks := true }, kinds := [], alts := [], laidByText := true, laidKinds := [.data, .pinned], laidTests := true, laidLooks := .later }
def PrettyFlatsCardSaid : Prop := Claim7.holds Tryd.pinned (.plain (OpenSpec.ofChange prettyFlatsSpec)) prettyFlatsCard

/-- THE TIED CARD OF 'commonformlaw09.PrettyRenders'. -/
def prettyRendersCard : Claim7 := { stood := { row := prettyRendersRow, standIns := [], harness := (true, "df80bc9e375864c607b8dcd5f05faf5377d097e30f8c9d3a99dc119b60d159be"), looks := true }, kinds := [], alts := [], laidByText := true, laidKinds := [.data, .pinned], laidTests := true, laidLooks := .later }
def PrettyRendersCardSaid : Prop := Claim7.holds Tryd.pinned (.plain (OpenSpec.ofChange prettyRendersSpec)) prettyRendersCard

/-- THE TIED CARD OF 'commonformlaw09.PrettyWords'. -/
def prettyWordsCard : Claim7 := { stood := { row := prettyWordsRow, standIns := [], harness := (true, "df80bc9e375864c607b8dcd5f05faf5377d097e30f8c9d3a99dc119b60d159be"), looks := true }, kinds := [], alts := [], laidByText := true, laidKinds := [.data, .pinned], laidTests := true, laidLooks := .later }
def PrettyWordsCardSaid : Prop := Claim7.holds Tryd.pinned (.plain (OpenSpec.ofChange prettyWordsSpec)) prettyWordsCard

/-- THE SECOND FORM's CARD OF 'commonformlaw09.PrettyBlocks'. -/
def prettyBlocksUptoCard : Claim7 := { stood := { row := prettyBlocksUptoRow, standIns := [], harness := (true, "df80bc9e375864c607b8dcd5f05faf5377d097e30f8c9d3a99dc119b60d159be"), looks := true }, kinds := [], alts := [], laidByText := true, laidKinds := [.data, .pinned], laidTests := true, laidLooks := .later }
def PrettyBlocksUptoCardSaid : Prop := Claim7.holds Tryd.pinned (.plain (OpenSpec.upto prettyBlocksSpec)) prettyBlocksUptoCard

/-- THE SECOND FORM's CARD OF 'commonformlaw09.PrettyFlats'. -/
def prettyFlatsUptoCard : Claim7 := { stood := { row := prettyFlatsUptoRow, standIns := [], harness := (true, "df80bc9e375864c607b8dcd5f05faf5377d097e30f8c9d3a99dc119b60d159be"), looks := true }, kinds := [], alts := [], laidByText := true, laidKinds := [.data, .pinned], laidTests := true, laidLooks := .later }
def PrettyFlatsUptoCardSaid : Prop := Claim7.holds Tryd.pinned (.plain (OpenSpec.upto prettyFlatsSpec)) prettyFlatsUptoCard

/-- THE SECOND FORM's CARD OF 'commonformlaw09.PrettyRenders'. -/
def prettyRendersUptoCard : Claim7 := { stood := { row := prettyRendersUptoRow, standIns := [], harness := (true, "df80bc9e375864c607b8dcd5f05faf5377d097e30f8c9d3a99dc119b60d159be"), looks := true }, kinds := [], alts := [], laidByText := true, laidKinds := [.data, .pinned], laidTests := true, laidLooks := .later }
def PrettyRendersUptoCardSaid : Prop := Claim7.holds Tryd.pinned (.plain (OpenSpec.upto prettyRendersSpec)) prettyRendersUptoCard

/-- THE SECOND FORM's CARD OF 'commonformlaw09.PrettyWords'. -/
def prettyWordsUptoCard : Claim7 := { stood := { row := prettyWordsUptoRow, standIns := [], harness := (true, "df80bc9e375864c607b8dcd5f05faf5377d097e30f8c9d3a99dc119b60d159be"), looks := true }, kinds := [], alts := [], laidByText := true, laidKinds := [.data, .pinned], laidTests := true, laidLooks := .later }
def PrettyWordsUptoCardSaid : Prop := Claim7.holds Tryd.pinned (.plain (OpenSpec.upto prettyWordsSpec)) prettyWordsUptoCard
end Rows
end Go.Proofs.YtljgpcaljedhpaaDoor
