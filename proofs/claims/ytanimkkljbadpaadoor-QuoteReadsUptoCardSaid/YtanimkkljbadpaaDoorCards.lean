/-
  DERIVED. GIVEN WITH THE SEED: THE CARDS: each row of YtanimkkljbadpaaDoorRows.lean that lists a variable, with what it lists TIED to the program's text (the seventh form; the later family's looks); each row that meets fmt, with fmt's text TOLD by the authors' own Lean function (tested against real Go, not proved from fmt's source: count such statements apart). THE CARD IS WHAT COUNTS. Prove the row's statement (the work); the ties are given (YtanimkkljbadpaaDoorTie.lean); close each card by the builder's one call (the guide's Derived/Test/ToyasCard.lean, 'card_holds'). Laid BY PROGRAM, IN A SANDBOX (cutbox-door.mjs). By AI agents, Wed Nov 11 2026. No macro, syntax, notation, axiom, sorry.
-/
import Derived.Test.YtanimkkljbadpaaDoorRows
import GoSem.ClaimSeven
namespace Go.Proofs.YtanimkkljbadpaaDoor
namespace Rows

/-- THE TIED CARD OF 'ferrulelaw5.QuoteKnown'. -/
def quoteKnownCard : Claim7 := { stood := { row := quoteKnownRow, standIns := [], harness := (true, "1df20ea514db8619f376a6fe51d5c1884e229ceaa2917be26e46b11d15413db9"), looks := false }, kinds := [], alts := [], laidByText := true, laidKinds := [.data, .pinned], laidTests := true, laidLooks := .later }
def QuoteKnownCardSaid : Prop := Claim7.holds Tryd.pinned (.plain (OpenSpec.ofChange quoteKnownSpec)) quoteKnownCard

/-- THE TIED CARD OF 'ferrulelaw5.QuoteTells'. -/
def quoteTellsCard : Claim7 := { stood := { row := quoteTellsRow, standIns := [], harness := (true, "1df20ea514db8619f376a6fe51d5c1884e229ceaa2917be26e46b11d15413db9"), looks := false }, kinds := [], alts := [], laidByText := true, laidKinds := [.data, .pinned], laidTests := true, laidLooks := .later }
def QuoteTellsCardSaid : Prop := Claim7.holds Tryd.pinned (.plain (OpenSpec.ofChange quoteTellsSpec)) quoteTellsCard

/-- THE TIED CARD OF 'ferrulelaw5.QuoteReads'. -/
def quoteReadsCard : Claim7 := { stood := { row := quoteReadsRow, standIns := [], harness := (true, "1df20ea514db8619f376a6fe51d5c1884e229ceaa2917be26e46b11d15413db9"), looks := false }, kinds := [], alts := [], laidByText := true, laidKinds := [.data, .pinned], laidTests := true, laidLooks := .later }
def QuoteReadsCardSaid : Prop := Claim7.holds Tryd.pinned (.plain (OpenSpec.ofChange quoteReadsSpec)) quoteReadsCard

/-- THE TIED CARD OF 'ferrulelaw5.QuoteRunes'. -/
def quoteRunesCard : Claim7 := { stood := { row := quoteRunesRow, standIns := [], harness := (true, "1df20ea514db8619f376a6fe51d5c1884e229ceaa2917be26e46b11d15413db9"), looks := false }, kinds := [], alts := [], laidByText := true, laidKinds := [.data, .pinned], laidTests := true, laidLooks := .later }
def QuoteRunesCardSaid : Prop := Claim7.holds Tryd.pinned (.plain (OpenSpec.ofChange quoteRunesSpec)) quoteRunesCard

/-- THE TIED CARD OF 'ferrulelaw5.QuoteCuts'. -/
def quoteCutsCard : Claim7 := { stood := { row := quoteCutsRow, standIns := [], harness := (true, "1df20ea514db8619f376a6fe51d5c1884e229ceaa2917be26e46b11d15413db9"), looks := false }, kinds := [], alts := [], laidByText := true, laidKinds := [.data, .pinned], laidTests := true, laidLooks := .later }
def QuoteCutsCardSaid : Prop := Claim7.holds Tryd.pinned (.plain (OpenSpec.ofChange quoteCutsSpec)) quoteCutsCard

/-- THE TIED CARD OF 'ferrulelaw5.QuoteRows'. -/
def quoteRowsCard : Claim7 := { stood := { row := quoteRowsRow, standIns := [], harness := (true, "1df20ea514db8619f376a6fe51d5c1884e229ceaa2917be26e46b11d15413db9"), looks := false }, kinds := [], alts := [], laidByText := true, laidKinds := [.data, .pinned], laidTests := true, laidLooks := .later }
def QuoteRowsCardSaid : Prop := Claim7.holds Tryd.pinned (.plain (OpenSpec.ofChange quoteRowsSpec)) quoteRowsCard

/-- THE SECOND FORM's CARD OF 'ferrulelaw5.QuoteKnown'. -/
def quoteKnownUptoCard : Claim7 := { stood := { row := quoteKnownUptoRow, standIns := [], harness := (true, "1df20ea514db8619f376a6fe51d5c1884e229ceaa2917be26e46b11d15413db9"), looks := false }, kinds := [], alts := [], laidByText := true, laidKinds := [.data, .pinned], laidTests := true, laidLooks := .later }
def QuoteKnownUptoCardSaid : Prop := Claim7.holds Tryd.pinned (.plain (OpenSpec.upto quoteKnownSpec)) quoteKnownUptoCard

/-- THE SECOND FORM's CARD OF 'ferrulelaw5.QuoteTells'. -/
def quoteTellsUptoCard : Claim7 := { stood := { row := quoteTellsUptoRow, standIns := [], harness := (true, "1df20ea514db8619f376a6fe51d5c1884e229ceaa2917be26e46b11d15413db9"), looks := false }, kinds := [], alts := [], laidByText := true, laidKinds := [.data, .pinned], laidTests := true, laidLooks := .later }
def QuoteTellsUptoCardSaid : Prop := Claim7.holds Tryd.pinned (.plain (OpenSpec.upto quoteTellsSpec)) quoteTellsUptoCard

/-- THE SECOND FORM's CARD OF 'ferrulelaw5.QuoteReads'. -/
def quoteReadsUptoCard : Claim7 := { stood := { row := quoteReadsUptoRow, standIns := [], harness := (true, "1df20ea514db8619f376a6fe51d5c1884e229ceaa2917be26e46b11d15413db9"), looks := false }, kinds := [], alts := [], laidByText := true, laidKinds := [.data, .pinned], laidTests := true, laidLooks := .later }
def QuoteReadsUptoCardSaid : Prop := Claim7.holds Tryd.pinned (.plain (OpenSpec.upto quoteReadsSpec)) quoteReadsUptoCard

/-- THE SECOND FORM's CARD OF 'ferrulelaw5.QuoteRunes'. -/
def quoteRunesUptoCard : Claim7 := { stood := { row := quoteRunesUptoRow, standIns := [], harness := (true, "1df20ea514db8619f376a6fe51d5c1884e229ceaa2917be26e46b11d15413db9"), looks := false }, kinds := [], alts := [], laidByText := true, laidKinds := [.data, .pinned], laidTests := true, laidLooks := .later }
def QuoteRunesUptoCardSaid : Prop := Claim7.holds Tryd.pinned (.plain (OpenSpec.upto quoteRunesSpec)) quoteRunesUptoCard

/-- THE SECOND FORM's CARD OF 'ferrulelaw5.QuoteCuts'. -/
def quoteCutsUptoCard : Claim7 := { stood := { row := quoteCutsUptoRow, standIns := [], harness := (true, "1df20ea514db8619f376a6fe51d5c1884e229ceaa2917be26e46b11d15413db9"), looks := false }, kinds := [], alts := [], laidByText := true, laidKinds := [.data, .pinned], laidTests := true, laidLooks := .later }
def QuoteCutsUptoCardSaid : Prop := Claim7.holds Tryd.pinned (.plain (OpenSpec.upto quoteCutsSpec)) quoteCutsUptoCard

/-- THE SECOND FORM's CARD OF 'ferrulelaw5.QuoteRows'. -/
def quoteRowsUptoCard : Claim7 := { stood := { row := quoteRowsUptoRow, standIns := [], harness := (true, "1df20ea514db8619f376a6fe51d5c1884e229ceaa2917be26e46b11d15413db9"), looks := false }, kinds := [], alts := [], laidByText := true, laidKinds := [.data, .pinned], laidTests := true, laidLooks := .later }
def QuoteRowsUptoCardSaid : Prop := Claim7.holds Tryd.pinned (.plain (OpenSpec.upto quoteRowsSpec)) quoteRowsUptoCard
end Rows
end Go.Proofs.YtanimkkljbadpaaDoor
