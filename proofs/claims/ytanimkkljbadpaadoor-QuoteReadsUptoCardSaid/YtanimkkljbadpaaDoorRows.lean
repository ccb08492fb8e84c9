/-
  NARROWER THAN 'FOR EVERY INPUT', by the rows' own cells (each row's printed sentence says how): QuoteKnown: laid · QuoteTells: laid · QuoteReads: laid · QuoteRunes: laid · QuoteCuts: laid · QuoteRows: laid.
  DERIVED. THE GIVEN ROWS OF THIS SEAT. 6 by the template 'for every input the law returns true; each argument reads behind the call as it read before'; 0 by the template 'total and deterministic' (their statements: YtanimkkljbadpaaDoorTotals.lean).
  GIVEN WITH THE SEED: the statements are not yours to turn. If you find one false, say at which input.
  Laid BY PROGRAM, IN A SANDBOX (cutbox-rows.mjs): the forced cells as the released guide's own fill.sh prints them over the translation 2e9eae8b3a3128c2… (all of the seat's roots in one cut). By AI agents, Wed Nov 11 2026. No macro, syntax, notation, axiom, sorry.
-/
import Derived.Test.YtanimkkljbadpaaDoorChecked
import GoSem.PinnedTables
import GoSem.Claim
import GoSem.ClaimJoined
import GoSem.ClaimMapViews
import Derived.JoinedTies
import Derived.KernelRfl
namespace Go.Proofs.YtanimkkljbadpaaDoor
/- THE CELL 'sum', in the pinned program and in every row, IS THE sha256 OF THE DUMP (.gsa) THAT YtanimkkljbadpaaDoorProg.lean LOADS. Nothing in Lean hashes anything: it is a label: what it is worth is what the hold of that sum in a sandbox is worth. -/
noncomputable def Tryd.pinned : Pinned := { name := "ytanimkkljbadpaadoor", sum := "2e9eae8b3a3128c2a686f73f197d430e5a7a791d6d4fcc2c24a911aa91f366c2", checked := Tryd.checked }
namespace Rows
def none {H : Type} : Left H := { results := [], args := [] }

/- WHAT THE LISTED PACKAGE-LEVEL VARIABLES READ AS WHEN THE CALL BEGINS. Each datum BY PROGRAM (the guide's laid-datum.mjs) off the statement by which the dump's own 'gosem.cut.vars' lays the variable. In a bare row this is a premise. The card (YtanimkkljbadpaaDoorCards.lean) ties it to the program's text. -/
def laid_unicode_utf8_acceptRanges {H : Type} : DataW H := .agg [.agg [.lit (.int .u8 128), .lit (.int .u8 191)], .agg [.lit (.int .u8 160), .lit (.int .u8 191)], .agg [.lit (.int .u8 128), .lit (.int .u8 159)], .agg [.lit (.int .u8 144), .lit (.int .u8 191)], .agg [.lit (.int .u8 128), .lit (.int .u8 143)], .agg [.lit (.int .u8 0), .lit (.int .u8 0)], .agg [.lit (.int .u8 0), .lit (.int .u8 0)], .agg [.lit (.int .u8 0), .lit (.int .u8 0)], .agg [.lit (.int .u8 0), .lit (.int .u8 0)], .agg [.lit (.int .u8 0), .lit (.int .u8 0)], .agg [.lit (.int .u8 0), .lit (.int .u8 0)], .agg [.lit (.int .u8 0), .lit (.int .u8 0)], .agg [.lit (.int .u8 0), .lit (.int .u8 0)], .agg [.lit (.int .u8 0), .lit (.int .u8 0)], .agg [.lit (.int .u8 0), .lit (.int .u8 0)], .agg [.lit (.int .u8 0), .lit (.int .u8 0)]]
/-- One of Go's own tables, pinned by name: the form's constant. -/
def laid_unicode_utf8_first : DataW Unit := Go.Pinned.utf8First

/-- 'ferrulelaw5.QuoteKnown': WHATEVER THE INPUT: true; the input reads as it did. -/
def quoteKnownSpec : ChangeSpec := { name := "quoteKnown", fn := fun _ => fun
  | [] => { results := [.lit (.bool true)], args := [] }
  | _ => none }
def quoteKnownRow : OpenClaim := { program := "ytanimkkljbadpaadoor", sum := "2e9eae8b3a3128c2a686f73f197d430e5a7a791d6d4fcc2c24a911aa91f366c2", func := "ferrule/ferrulelaw5.QuoteKnown", spec := "quoteKnown", inPlace := ["internal/abi.NoEscape", "internal/bytealg.IndexByteString"], named := ["unicode/utf8.first", "unicode/utf8.acceptRanges"], apart := false, laid := [("unicode/utf8.acceptRanges", laid_unicode_utf8_acceptRanges), ("unicode/utf8.first", laid_unicode_utf8_first)] }
def QuoteKnownSaid : Prop := quoteKnownRow.holds Tryd.pinned (OpenSpec.ofChange quoteKnownSpec)

/-- ITS FALSE NEIGHBOUR: 'it returns false'. Refute it at one input. -/
def quoteKnownWrong : ChangeSpec := { name := "quoteKnown", fn := fun _ => fun
  | [] => { results := [.lit (.bool false)], args := [] }
  | _ => none }
def QuoteKnownWrongFalsely : Prop := quoteKnownRow.holds Tryd.pinned (OpenSpec.ofChange quoteKnownWrong)

/-- 'ferrulelaw5.QuoteTells': WHATEVER THE INPUT: true; the input reads as it did. -/
def quoteTellsSpec : ChangeSpec := { name := "quoteTells", fn := fun _ => fun
  | [d1, d2] => { results := [.lit (.bool true)], args := [d1, d2] }
  | _ => none }
def quoteTellsRow : OpenClaim := { program := "ytanimkkljbadpaadoor", sum := "2e9eae8b3a3128c2a686f73f197d430e5a7a791d6d4fcc2c24a911aa91f366c2", func := "ferrule/ferrulelaw5.QuoteTells", spec := "quoteTells", inPlace := ["internal/abi.NoEscape", "internal/bytealg.IndexByteString"], recurses := true, named := ["unicode/utf8.first", "unicode/utf8.acceptRanges"], apart := false, laid := [("unicode/utf8.acceptRanges", laid_unicode_utf8_acceptRanges), ("unicode/utf8.first", laid_unicode_utf8_first)] }
def QuoteTellsSaid : Prop := quoteTellsRow.holds Tryd.pinned (OpenSpec.ofChange quoteTellsSpec)

/-- ITS FALSE NEIGHBOUR: 'it returns false'. Refute it at one input. -/
def quoteTellsWrong : ChangeSpec := { name := "quoteTells", fn := fun _ => fun
  | [d1, d2] => { results := [.lit (.bool false)], args := [d1, d2] }
  | _ => none }
def QuoteTellsWrongFalsely : Prop := quoteTellsRow.holds Tryd.pinned (OpenSpec.ofChange quoteTellsWrong)

/-- 'ferrulelaw5.QuoteReads': WHATEVER THE INPUT: true; the input reads as it did. -/
def quoteReadsSpec : ChangeSpec := { name := "quoteReads", fn := fun _ => fun
  | [d1, d2, d3, d4] => { results := [.lit (.bool true)], args := [d1, d2, d3, d4] }
  | _ => none }
def quoteReadsRow : OpenClaim := { program := "ytanimkkljbadpaadoor", sum := "2e9eae8b3a3128c2a686f73f197d430e5a7a791d6d4fcc2c24a911aa91f366c2", func := "ferrule/ferrulelaw5.QuoteReads", spec := "quoteReads", inPlace := ["internal/abi.NoEscape", "internal/bytealg.IndexByteString"], recurses := true, named := ["unicode/utf8.first", "unicode/utf8.acceptRanges"], apart := false, laid := [("unicode/utf8.acceptRanges", laid_unicode_utf8_acceptRanges), ("unicode/utf8.first", laid_unicode_utf8_first)] }
def QuoteReadsSaid : Prop := quoteReadsRow.holds Tryd.pinned (OpenSpec.ofChange quoteReadsSpec)

/-- ITS FALSE NEIGHBOUR: 'it returns false'. Refute it at one input. -/
def quoteReadsWrong : ChangeSpec := { name := "quoteReads", fn := fun _ => fun
  | [d1, d2, d3, d4] => { results := [.lit (.bool false)], args := [d1, d2, d3, d4] }
  | _ => none }
def QuoteReadsWrongFalsely : Prop := quoteReadsRow.holds Tryd.pinned (OpenSpec.ofChange quoteReadsWrong)

/-- 'ferrulelaw5.QuoteRunes': WHATEVER THE INPUT: true; the input reads as it did. -/
def quoteRunesSpec : ChangeSpec := { name := "quoteRunes", fn := fun _ => fun
  | [d1, d2] => { results := [.lit (.bool true)], args := [d1, d2] }
  | _ => none }
def quoteRunesRow : OpenClaim := { program := "ytanimkkljbadpaadoor", sum := "2e9eae8b3a3128c2a686f73f197d430e5a7a791d6d4fcc2c24a911aa91f366c2", func := "ferrule/ferrulelaw5.QuoteRunes", spec := "quoteRunes", inPlace := ["internal/abi.NoEscape", "internal/bytealg.IndexByteString"], named := ["unicode/utf8.first", "unicode/utf8.acceptRanges"], apart := false, laid := [("unicode/utf8.acceptRanges", laid_unicode_utf8_acceptRanges), ("unicode/utf8.first", laid_unicode_utf8_first)] }
def QuoteRunesSaid : Prop := quoteRunesRow.holds Tryd.pinned (OpenSpec.ofChange quoteRunesSpec)

/-- ITS FALSE NEIGHBOUR: 'it returns false'. Refute it at one input. -/
def quoteRunesWrong : ChangeSpec := { name := "quoteRunes", fn := fun _ => fun
  | [d1, d2] => { results := [.lit (.bool false)], args := [d1, d2] }
  | _ => none }
def QuoteRunesWrongFalsely : Prop := quoteRunesRow.holds Tryd.pinned (OpenSpec.ofChange quoteRunesWrong)

/-- 'ferrulelaw5.QuoteCuts': WHATEVER THE INPUT: true; the input reads as it did. -/
def quoteCutsSpec : ChangeSpec := { name := "quoteCuts", fn := fun _ => fun
  | [d1, d2] => { results := [.lit (.bool true)], args := [d1, d2] }
  | _ => none }
def quoteCutsRow : OpenClaim := { program := "ytanimkkljbadpaadoor", sum := "2e9eae8b3a3128c2a686f73f197d430e5a7a791d6d4fcc2c24a911aa91f366c2", func := "ferrule/ferrulelaw5.QuoteCuts", spec := "quoteCuts", inPlace := ["internal/abi.NoEscape", "internal/bytealg.IndexByteString"], named := ["unicode/utf8.first", "unicode/utf8.acceptRanges"], apart := false, laid := [("unicode/utf8.acceptRanges", laid_unicode_utf8_acceptRanges), ("unicode/utf8.first", laid_unicode_utf8_first)] }
def QuoteCutsSaid : Prop := quoteCutsRow.holds Tryd.pinned (OpenSpec.ofChange quoteCutsSpec)

/-- ITS FALSE NEIGHBOUR: 'it returns false'. Refute it at one input. -/
def quoteCutsWrong : ChangeSpec := { name := "quoteCuts", fn := fun _ => fun
  | [d1, d2] => { results := [.lit (.bool false)], args := [d1, d2] }
  | _ => none }
def QuoteCutsWrongFalsely : Prop := quoteCutsRow.holds Tryd.pinned (OpenSpec.ofChange quoteCutsWrong)

/-- 'ferrulelaw5.QuoteRows': WHATEVER THE INPUT: true; the input reads as it did. -/
def quoteRowsSpec : ChangeSpec := { name := "quoteRows", fn := fun _ => fun
  | [d] => { results := [.lit (.bool true)], args := [d] }
  | _ => none }
def quoteRowsRow : OpenClaim := { program := "ytanimkkljbadpaadoor", sum := "2e9eae8b3a3128c2a686f73f197d430e5a7a791d6d4fcc2c24a911aa91f366c2", func := "ferrule/ferrulelaw5.QuoteRows", spec := "quoteRows", inPlace := ["internal/abi.NoEscape", "internal/bytealg.IndexByteString"], named := ["unicode/utf8.first", "unicode/utf8.acceptRanges"], apart := false, laid := [("unicode/utf8.acceptRanges", laid_unicode_utf8_acceptRanges), ("unicode/utf8.first", laid_unicode_utf8_first)] }
def QuoteRowsSaid : Prop := quoteRowsRow.holds Tryd.pinned (OpenSpec.ofChange quoteRowsSpec)

/-- ITS FALSE NEIGHBOUR: 'it returns false'. Refute it at one input. -/
def quoteRowsWrong : ChangeSpec := { name := "quoteRows", fn := fun _ => fun
  | [d] => { results := [.lit (.bool false)], args := [d] }
  | _ => none }
def QuoteRowsWrongFalsely : Prop := quoteRowsRow.holds Tryd.pinned (OpenSpec.ofChange quoteRowsWrong)

/- THE SECOND FORM. 'bulk': how many values and letters a reading holds, each counted each time it is reached (what is shared counts as often as it is met; a slice's spare places count too). A statement '..UptoSaid' is the law's where the arguments, and the package variables that the reading takes, are together of bulk at most 1048576: NARROWER than '..Said'. Prove '..Said' where nothing that the law and all that it calls make is longer than what came in: it says more and counts as full. Else prove '..UptoSaid'. A law counts once. -/
mutual
def uptoBulk {H : Type} : DataW H → Nat
  | .lit (.string bytes) => bytes.length + 1
  | .lit _ => 1
  | .nil => 1
  | .ptr d => uptoBulk d + 1
  | .slice elems spare => uptoBulkAll elems + uptoBulkAll spare + 1
  | .agg parts => uptoBulkAll parts + 1
  | .iface _ d => uptoBulk d + 1
  | .map entries => uptoBulkEntries entries + 1
  | .held _ => 1
def uptoBulkAll {H : Type} : List (DataW H) → Nat
  | [] => 0
  | d :: r => uptoBulk d + uptoBulkAll r
def uptoBulkEntries {H : Type} : List (Lit × DataW H) → Nat
  | [] => 0
  | x :: r => uptoBulkEntry x + uptoBulkEntries r
def uptoBulkEntry {H : Type} : Lit × DataW H → Nat
  | (.string bytes, d) => bytes.length + uptoBulk d + 1
  | (_, d) => uptoBulk d + 1
 end
def uptoSmall : (H : Type) → List (DataW H) → Bool := fun _ ds => decide (uptoBulkAll ds ≤ 1048576)
def OpenSpec.upto (s : _root_.Go.ChangeSpec) : _root_.Go.OpenSpec := { _root_.Go.OpenSpec.ofChange s with cond := some uptoSmall }

/-- 'ferrulelaw5.QuoteKnown', WHERE WHAT IT READS IS OF BULK AT MOST 1048576: true; the input reads as it did. -/
def quoteKnownUptoRow : OpenClaim := { program := "ytanimkkljbadpaadoor", sum := "2e9eae8b3a3128c2a686f73f197d430e5a7a791d6d4fcc2c24a911aa91f366c2", func := "ferrule/ferrulelaw5.QuoteKnown", spec := "quoteKnown", inPlace := ["internal/abi.NoEscape", "internal/bytealg.IndexByteString"], named := ["unicode/utf8.first", "unicode/utf8.acceptRanges"], apart := false, laid := [("unicode/utf8.acceptRanges", laid_unicode_utf8_acceptRanges), ("unicode/utf8.first", laid_unicode_utf8_first)], narrowed := true }
def QuoteKnownUptoSaid : Prop := quoteKnownUptoRow.holds Tryd.pinned (OpenSpec.upto quoteKnownSpec)

/-- 'ferrulelaw5.QuoteTells', WHERE WHAT IT READS IS OF BULK AT MOST 1048576: true; the input reads as it did. -/
def quoteTellsUptoRow : OpenClaim := { program := "ytanimkkljbadpaadoor", sum := "2e9eae8b3a3128c2a686f73f197d430e5a7a791d6d4fcc2c24a911aa91f366c2", func := "ferrule/ferrulelaw5.QuoteTells", spec := "quoteTells", inPlace := ["internal/abi.NoEscape", "internal/bytealg.IndexByteString"], recurses := true, named := ["unicode/utf8.first", "unicode/utf8.acceptRanges"], apart := false, laid := [("unicode/utf8.acceptRanges", laid_unicode_utf8_acceptRanges), ("unicode/utf8.first", laid_unicode_utf8_first)], narrowed := true }
def QuoteTellsUptoSaid : Prop := quoteTellsUptoRow.holds Tryd.pinned (OpenSpec.upto quoteTellsSpec)

/-- 'ferrulelaw5.QuoteReads', WHERE WHAT IT READS IS OF BULK AT MOST 1048576: true; the input reads as it did. -/
def quoteReadsUptoRow : OpenClaim := { program := "ytanimkkljbadpaadoor", sum := "2e9eae8b3a3128c2a686f73f197d430e5a7a791d6d4fcc2c24a911aa91f366c2", func := "ferrule/ferrulelaw5.QuoteReads", spec := "quoteReads", inPlace := ["internal/abi.NoEscape", "internal/bytealg.IndexByteString"], recurses := true, named := ["unicode/utf8.first", "unicode/utf8.acceptRanges"], apart := false, laid := [("unicode/utf8.acceptRanges", laid_unicode_utf8_acceptRanges), ("unicode/utf8.first", laid_unicode_utf8_first)], narrowed := true }
def QuoteReadsUptoSaid : Prop := quoteReadsUptoRow.holds Tryd.pinned (OpenSpec.upto quoteReadsSpec)

/-- 'ferrulelaw5.QuoteRunes', WHERE WHAT IT READS IS OF BULK AT MOST 1048576: true; the input reads as it did. -/
def quoteRunesUptoRow : OpenClaim := { program := "ytanimkkljbadpaadoor", sum := "2e9eae8b3a3128c2a686f73f197d430e5a7a791d6d4fcc2c24a911aa91f366c2", func := "ferrule/ferrulelaw5.QuoteRunes", spec := "quoteRunes", inPlace := ["internal/abi.NoEscape", "internal/bytealg.IndexByteString"], named := ["unicode/utf8.first", "unicode/utf8.acceptRanges"], apart := false, laid := [("unicode/utf8.acceptRanges", laid_unicode_utf8_acceptRanges), ("unicode/utf8.first", laid_unicode_utf8_first)], narrowed := true }
def QuoteRunesUptoSaid : Prop := quoteRunesUptoRow.holds Tryd.pinned (OpenSpec.upto quoteRunesSpec)

/-- 'ferrulelaw5.QuoteCuts', WHERE WHAT IT READS IS OF BULK AT MOST 1048576: true; the input reads as it did. -/
def quoteCutsUptoRow : OpenClaim := { program := "ytanimkkljbadpaadoor", sum := "2e9eae8b3a3128c2a686f73f197d430e5a7a791d6d4fcc2c24a911aa91f366c2", func := "ferrule/ferrulelaw5.QuoteCuts", spec := "quoteCuts", inPlace := ["internal/abi.NoEscape", "internal/bytealg.IndexByteString"], named := ["unicode/utf8.first", "unicode/utf8.acceptRanges"], apart := false, laid := [("unicode/utf8.acceptRanges", laid_unicode_utf8_acceptRanges), ("unicode/utf8.first", laid_unicode_utf8_first)], narrowed := true }
def QuoteCutsUptoSaid : Prop := quoteCutsUptoRow.holds Tryd.pinned (OpenSpec.upto quoteCutsSpec)

/-- 'ferrulelaw5.QuoteRows', WHERE WHAT IT READS IS OF BULK AT MOST 1048576: true; the input reads as it did. -/
def quoteRowsUptoRow : OpenClaim := { program := "ytanimkkljbadpaadoor", sum := "2e9eae8b3a3128c2a686f73f197d430e5a7a791d6d4fcc2c24a911aa91f366c2", func := "ferrule/ferrulelaw5.QuoteRows", spec := "quoteRows", inPlace := ["internal/abi.NoEscape", "internal/bytealg.IndexByteString"], named := ["unicode/utf8.first", "unicode/utf8.acceptRanges"], apart := false, laid := [("unicode/utf8.acceptRanges", laid_unicode_utf8_acceptRanges), ("unicode/utf8.first", laid_unicode_utf8_first)], narrowed := true }
def QuoteRowsUptoSaid : Prop := quoteRowsUptoRow.holds Tryd.pinned (OpenSpec.upto quoteRowsSpec)

end Rows
end Go.Proofs.YtanimkkljbadpaaDoor
