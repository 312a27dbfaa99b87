/-
  NARROWER THAN 'FOR EVERY INPUT', by the rows' own cells (each row's printed sentence says how): PrettyBlocks: laid · PrettyFlats: laid · PrettyRenders: laid · PrettyWords: laid.
  DERIVED. THE GIVEN ROWS OF THIS SEAT. 4 by the template 'for every input the law returns true; each argument reads behind the call as it read before'; 0 by the template 'total and deterministic' (their statements: YtljgpcaljedhpaaDoorTotals.lean).
  GIVEN WITH THE SEED: the statements are not yours to turn. If you find one false, say at which input.
  Laid BY PROGRAM, IN A SANDBOX (cutbox-rows.mjs): the forced cells as the released guide's own fill.sh prints them over the translation f7db1730c8e0fab5… (all of the seat's roots in one cut). By AI agents, Wed Nov 11 2026. No macro, syntax, notation, axiom, sorry.
-/
import Derived.Test.YtljgpcaljedhpaaDoorChecked
import GoSem.PinnedTables
import GoSem.Claim
import GoSem.ClaimJoined
import GoSem.ClaimMapViews
import Derived.JoinedTies
import Derived.KernelRfl
namespace Go.Proofs.YtljgpcaljedhpaaDoor
/- THE CELL 'sum', in the pinned program and in every row, IS THE sha256 OF THE DUMP (.gsa) THAT YtljgpcaljedhpaaDoorProg.lean LOADS. Nothing in Lean hashes anything: it is a label: what it is worth is what the hold of that sum in a sandbox is worth. -/
noncomputable def Tryd.pinned : Pinned := { name := "ytljgpcaljedhpaadoor", sum := "f7db1730c8e0fab5f374384646cc396873b16003cc24ff8299f0fecf5c1ad346", checked := Tryd.checked }
namespace Rows
def none {H : Type} : Left H := { results := [], args := [] }

/- WHAT THE LISTED PACKAGE-LEVEL VARIABLES READ AS WHEN THE CALL BEGINS. Each datum BY PROGRAM (the guide's laid-datum.mjs) off the statement by which the dump's own 'gosem.cut.vars' lays the variable. In a bare row this is a premise. The card (YtljgpcaljedhpaaDoorCards.lean) ties it to the program's text. -/
def laid_unicode_utf8_acceptRanges {H : Type} : DataW H := .agg [.agg [.lit (.int .u8 128), .lit (.int .u8 191)], .agg [.lit (.int .u8 160), .lit (.int .u8 191)], .agg [.lit (.int .u8 128), .lit (.int .u8 159)], .agg [.lit (.int .u8 144), .lit (.int .u8 191)], .agg [.lit (.int .u8 128), .lit (.int .u8 143)], .agg [.lit (.int .u8 0), .lit (.int .u8 0)], .agg [.lit (.int .u8 0), .lit (.int .u8 0)], .agg [.lit (.int .u8 0), .lit (.int .u8 0)], .agg [.lit (.int .u8 0), .lit (.int .u8 0)], .agg [.lit (.int .u8 0), .lit (.int .u8 0)], .agg [.lit (.int .u8 0), .lit (.int .u8 0)], .agg [.lit (.int .u8 0), .lit (.int .u8 0)], .agg [.lit (.int .u8 0), .lit (.int .u8 0)], .agg [.lit (.int .u8 0), .lit (.int .u8 0)], .agg [.lit (.int .u8 0), .lit (.int .u8 0)], .agg [.lit (.int .u8 0), .lit (.int .u8 0)]]
/-- One of Go's own tables, pinned by name: the form's constant. -/
def laid_unicode_utf8_first : DataW Unit := Go.Pinned.utf8First

/-- 'commonformlaw09.PrettyBlocks': WHATEVER THE INPUT: true; the input reads as it did. -/
def prettyBlocksSpec : ChangeSpec := { name := "prettyBlocks", fn := fun _ => fun
  | [d1, d2, d3, d4] => { results := [.lit (.bool true)], args := [d1, d2, d3, d4] }
  | _ => none }
def prettyBlocksRow : OpenClaim := { program := "ytljgpcaljedhpaadoor", sum := "f7db1730c8e0fab5f374384646cc396873b16003cc24ff8299f0fecf5c1ad346", func := "commonform/commonformlaw09.PrettyBlocks", spec := "prettyBlocks", inPlace := ["internal/bytealg.IndexByteString", "internal/bytealg.IndexString", "internal/abi.NoEscape", "internal/bytealg.MakeNoZero", "internal/bytealg.CountString"], unfollowed := true, recurses := true, named := ["unicode/utf8.first", "unicode/utf8.acceptRanges", "internal/bytealg.MaxLen"], apart := false, laid := [("unicode/utf8.acceptRanges", laid_unicode_utf8_acceptRanges), ("unicode/utf8.first", laid_unicode_utf8_first)] }
def PrettyBlocksSaid : Prop := prettyBlocksRow.holds Tryd.pinned (OpenSpec.ofChange prettyBlocksSpec)

/-- ITS FALSE NEIGHBOUR: 'it returns false'. Refute it at one input. -/
def prettyBlocksWrong : ChangeSpec := { name := "prettyBlocks", fn := fun _ => fun
  | [d1, d2, d3, d4] => { results := [.lit (.bool false)], args := [d1, d2, d3, d4] }
  | _ => none }
def PrettyBlocksWrongFalsely : Prop := prettyBlocksRow.holds Tryd.pinned (OpenSpec.ofChange prettyBlocksWrong)

/-- 'commonformlaw09.PrettyFlats': WHATEVER THE INPUT: true; the input reads as it did. -/
def prettyFlatsSpec : ChangeSpec := { name := "prettyFlats", fn := fun _ => fun
  | [d1, d2, d3] => { results := [.lit (.bool true)], args := [d1, d2, d3] }
  | _ => none }
def prettyFlatsRow : OpenClaim := { program := "ytljgpcaljedhpaadoor", sum := "f7db1730c8e0fab5f374384646cc396873b16003cc24ff8299f0fecf5c1ad346", func := "commonform/commonformlaw09.PrettyFlats", spec := "prettyFlats", inPlace := ["internal/bytealg.IndexByteString", "internal/bytealg.IndexString", "internal/abi.NoEscape", "internal/bytealg.MakeNoZero", "internal/bytealg.CountString"], unfollowed := true, recurses := true, named := ["unicode/utf8.first", "unicode/utf8.acceptRanges", "internal/bytealg.MaxLen"], apart := false, laid := [("unicode/utf8.acceptRanges", laid_unicode_utf8_acceptRanges), ("unicode/utf8.first", laid_unicode_utf8_first)] }
def PrettyFlatsSaid : Prop := prettyFlatsRow.holds Tryd.pinned (OpenSpec.ofChange prettyFlatsSpec)

/-- ITS FALSE NEIGHBOUR: 'it returns false'. Refute it at one input. -/
def prettyFlatsWrong : ChangeSpec := { name := "prettyFlats", fn := fun _ => fun
  | [d1, d2, d3] => { results := [.lit (.bool false)], args := [d1, d2, d3] }
  | _ => none }
def PrettyFlatsWrongFalsely : Prop := prettyFlatsRow.holds Tryd.pinned (OpenSpec.ofChange prettyFlatsWrong)

/-- 'commonformlaw09.PrettyRenders': WHATEVER THE INPUT: true; the input reads as it did. -/
def prettyRendersSpec : ChangeSpec := { name := "prettyRenders", fn := fun _ => fun
  | [d1, d2, d3, d4] => { results := [.lit (.bool true)], args := [d1, d2, d3, d4] }
  | _ => none }
def prettyRendersRow : OpenClaim := { program := "ytljgpcaljedhpaadoor", sum := "f7db1730c8e0fab5f374384646cc396873b16003cc24ff8299f0fecf5c1ad346", func := "commonform/commonformlaw09.PrettyRenders", spec := "prettyRenders", inPlace := ["internal/bytealg.IndexByteString", "internal/bytealg.IndexString", "internal/abi.NoEscape", "internal/bytealg.MakeNoZero", "internal/bytealg.CountString"], unfollowed := true, recurses := true, named := ["unicode/utf8.first", "unicode/utf8.acceptRanges", "internal/bytealg.MaxLen"], apart := false, laid := [("unicode/utf8.acceptRanges", laid_unicode_utf8_acceptRanges), ("unicode/utf8.first", laid_unicode_utf8_first)] }
def PrettyRendersSaid : Prop := prettyRendersRow.holds Tryd.pinned (OpenSpec.ofChange prettyRendersSpec)

/-- ITS FALSE NEIGHBOUR: 'it returns false'. Refute it at one input. -/
def prettyRendersWrong : ChangeSpec := { name := "prettyRenders", fn := fun _ => fun
  | [d1, d2, d3, d4] => { results := [.lit (.bool false)], args := [d1, d2, d3, d4] }
  | _ => none }
def PrettyRendersWrongFalsely : Prop := prettyRendersRow.holds Tryd.pinned (OpenSpec.ofChange prettyRendersWrong)

/-- 'commonformlaw09.PrettyWords': WHATEVER THE INPUT: true; the input reads as it did. -/
def prettyWordsSpec : ChangeSpec := { name := "prettyWords", fn := fun _ => fun
  | [d1, d2, d3] => { results := [.lit (.bool true)], args := [d1, d2, d3] }
  | _ => none }
def prettyWordsRow : OpenClaim := { program := "ytljgpcaljedhpaadoor", sum := "f7db1730c8e0fab5f374384646cc396873b16003cc24ff8299f0fecf5c1ad346", func := "commonform/commonformlaw09.PrettyWords", spec := "prettyWords", inPlace := ["internal/bytealg.IndexByteString", "internal/bytealg.IndexString", "internal/abi.NoEscape", "internal/bytealg.MakeNoZero", "internal/bytealg.CountString"], unfollowed := true, recurses := true, named := ["unicode/utf8.first", "unicode/utf8.acceptRanges", "internal/bytealg.MaxLen"], apart := false, laid := [("unicode/utf8.acceptRanges", laid_unicode_utf8_acceptRanges), ("unicode/utf8.first", laid_unicode_utf8_first)] }
def PrettyWordsSaid : Prop := prettyWordsRow.holds Tryd.pinned (OpenSpec.ofChange prettyWordsSpec)

/-- ITS FALSE NEIGHBOUR: 'it returns false'. Refute it at one input. -/
def prettyWordsWrong : ChangeSpec := { name := "prettyWords", fn := fun _ => fun
  | [d1, d2, d3] => { results := [.lit (.bool false)], args := [d1, d2, d3] }
  | _ => none }
def PrettyWordsWrongFalsely : Prop := prettyWordsRow.holds Tryd.pinned (OpenSpec.ofChange prettyWordsWrong)

/- THE SECOND FORM. 'bulk': how many values and letters a reading holds, each counted each time it is reached (what is shared counts as often as it is met; a slice's spare places count too). A statement '..UptoSaid' is the law's where the arguments, and the package variables that the reading takes, are together of bulk at most 1048576: NARROWER than '..Said'. Prove '..Said' where nothing that the law and all that it calls make is longer than what came in: it says more and counts as full. Else prove '..UptoSaid'. A law counts once. -/
mutual
def uptoBulk {H : Type} : DataW H → Nat
  | .lit (.string bytes) => bytes.length + 1
  | .lit _ => 1
  | .nil => 1
  | .ptr d => uptoBulk d + 1
  | .slice elems spare => uptoBulkAll elems + uptoBulkAll spare + 1
  | .agg parts => uptoBulkAll parts + 1
  | .iface _ d => uptoBulk d + 1
  | .map entries => uptoBulkEntries entries + 1
  | .held _ => 1
def uptoBulkAll {H : Type} : List (DataW H) → Nat
  | [] => 0
  | d :: r => uptoBulk d + uptoBulkAll r
def uptoBulkEntries {H : Type} : List (Lit × DataW H) → Nat
  | [] => 0
  | x :: r => uptoBulkEntry x + uptoBulkEntries r
def uptoBulkEntry {H : Type} : Lit × DataW H → Nat
  | (.string bytes, d) => bytes.length + uptoBulk d + 1
  | (_, d) => uptoBulk d + 1
 end
def uptoSmall : (H : Type) → List (DataW H) → Bool := fun _ ds => decide (uptoBulkAll ds ≤ 1048576)
def OpenSpec.upto (s : _root_.Go.ChangeSpec) : _root_.Go.OpenSpec := { _root_.Go.OpenSpec.ofChange s with cond := some uptoSmall }

/-- 'commonformlaw09.PrettyBlocks', WHERE WHAT IT READS IS OF BULK AT MOST 1048576: true; the input reads as it did. -/
def prettyBlocksUptoRow : OpenClaim := { program := "ytljgpcaljedhpaadoor", sum := "f7db1730c8e0fab5f374384646cc396873b16003cc24ff8299f0fecf5c1ad346", func := "commonform/commonformlaw09.PrettyBlocks", spec := "prettyBlocks", inPlace := ["internal/bytealg.IndexByteString", "internal/bytealg.IndexString", "internal/abi.NoEscape", "internal/bytealg.MakeNoZero", "internal/bytealg.CountString"], unfollowed := true, recurses := true, named := ["unicode/utf8.first", "unicode/utf8.acceptRanges", "internal/bytealg.MaxLen"], apart := false, laid := [("unicode/utf8.acceptRanges", laid_unicode_utf8_acceptRanges), ("unicode/utf8.first", laid_unicode_utf8_first)], narrowed := true }
def PrettyBlocksUptoSaid : Prop := prettyBlocksUptoRow.holds Tryd.pinned (OpenSpec.upto prettyBlocksSpec)

/-- 'commonformlaw09.PrettyFlats', WHERE WHAT IT READS IS OF BULK AT MOST 1048576: true; the input reads as it did. -/
def prettyFlatsUptoRow : OpenClaim := { program := "ytljgpcaljedhpaadoor", sum := "f7db1730c8e0fab5f374384646cc396873b16003cc24ff8299f0fecf5c1ad346", func := "commonform/commonformlaw09.PrettyFlats", spec := "prettyFlats", inPlace := ["internal/bytealg.IndexByteString", "internal/bytealg.IndexString", "internal/abi.NoEscape", "internal/bytealg.MakeNoZero", "internal/bytealg.CountString"], unfollowed := true, recurses := true, named := ["unicode/utf8.first", "unicode/utf8.acceptRanges", "internal/bytealg.MaxLen"], apart := false, laid := [("unicode/utf8.acceptRanges", laid_unicode_utf8_acceptRanges), ("unicode/utf8.first", laid_unicode_utf8_first)], narrowed := true }
def PrettyFlatsUptoSaid : Prop := prettyFlatsUptoRow.holds Tryd.pinned (OpenSpec.upto prettyFlatsSpec)

/-- 'commonformlaw09.PrettyRenders', WHERE WHAT IT READS IS OF BULK AT MOST 1048576: true; the input reads as it did. -/
def prettyRendersUptoRow : OpenClaim := { program := "ytljgpcaljedhpaadoor", sum := "f7db1730c8e0fab5f374384646cc396873b16003cc24ff8299f0fecf5c1ad346", func := "commonform/commonformlaw09.PrettyRenders", spec := "prettyRenders", inPlace := ["internal/bytealg.IndexByteString", "internal/bytealg.IndexString", "internal/abi.NoEscape", "internal/bytealg.MakeNoZero", "internal/bytealg.CountString"], unfollowed := true, recurses := true, named := ["unicode/utf8.first", "unicode/utf8.acceptRanges", "internal/bytealg.MaxLen"], apart := false, laid := [("unicode/utf8.acceptRanges", laid_unicode_utf8_acceptRanges), ("unicode/utf8.first", laid_unicode_utf8_first)], narrowed := true }
def PrettyRendersUptoSaid : Prop := prettyRendersUptoRow.holds Tryd.pinned (OpenSpec.upto prettyRendersSpec)

/-- 'commonformlaw09.PrettyWords', WHERE WHAT IT READS IS OF BULK AT MOST 1048576: true; the input reads as it did. -/
def prettyWordsUptoRow : OpenClaim := { program := "ytljgpcaljedhpaadoor", sum := "f7db1730c8e0fab5f374384646cc396873b16003cc24ff8299f0fecf5c1ad346", func := "commonform/commonformlaw09.PrettyWords", spec := "prettyWords", inPlace := ["internal/bytealg.IndexByteString", "internal/bytealg.IndexString", "internal/abi.NoEscape", "internal/bytealg.MakeNoZero", "internal/bytealg.CountString"], unfollowed := true, recurses := true, named := ["unicode/utf8.first", "unicode/utf8.acceptRanges", "internal/bytealg.MaxLen"], apart := false, laid := [("unicode/utf8.acceptRanges", laid_unicode_utf8_acceptRanges), ("unicode/utf8.first", laid_unicode_utf8_first)], narrowed := true }
def PrettyWordsUptoSaid : Prop := prettyWordsUptoRow.holds Tryd.pinned (OpenSpec.upto prettyWordsSpec)

end Rows
end Go.Proofs.YtljgpcaljedhpaaDoor
