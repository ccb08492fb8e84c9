/-
  No cell of these rows narrows 'for every input' (looked for: loops, veiled, ifaces, maps, wideKeys, modest, calm, conditions, laid).
  DERIVED. THE GIVEN ROWS OF THIS SEAT. 4 by the template 'for every input the law returns true; each argument reads behind the call as it read before'; 0 by the template 'total and deterministic' (their statements: YtojgjjgfbbejmaaTotals.lean).
  GIVEN WITH THE SEED: the statements are not yours to turn. If you find one false, say at which input.
  Laid BY PROGRAM, IN A SANDBOX (cutbox-rows.mjs): the forced cells as the released guide's own fill.sh prints them over the translation d96a6140505636f0… (all of the seat's roots in one cut). By AI agents, Wed Nov 11 2026. No macro, syntax, notation, axiom, sorry.
-/
import Derived.Test.YtojgjjgfbbejmaaChecked
import GoSem.Claim
import GoSem.ClaimJoined
import GoSem.ClaimMapViews
import Derived.JoinedTies
import Derived.KernelRfl
namespace Go.Proofs.Ytojgjjgfbbejmaa
/- THE CELL 'sum', in the pinned program and in every row, IS THE sha256 OF THE DUMP (.gsa) THAT YtojgjjgfbbejmaaProg.lean LOADS. Nothing in Lean hashes anything: it is a label: what it is worth is what the hold of that sum in a sandbox is worth. -/
noncomputable def Try.pinned : Pinned := { name := "ytojgjjgfbbejmaa", sum := "d96a6140505636f0bb37f7c18bca8f36d643b295e712f98705cb442803ea7280", checked := Try.checked }
namespace Rows
def none {H : Type} : Left H := { results := [], args := [] }

/-- 'ferrulelaw14.StreamKnown': WHATEVER THE INPUT: true; the input reads as it did. -/
def streamKnownSpec : ChangeSpec := { name := "streamKnown", fn := fun _ => fun
  | [] => { results := [.lit (.bool true)], args := [] }
  | _ => none }
def streamKnownRow : OpenClaim := { program := "ytojgjjgfbbejmaa", sum := "d96a6140505636f0bb37f7c18bca8f36d643b295e712f98705cb442803ea7280", func := "ferrule/ferrulelaw14.StreamKnown", spec := "streamKnown", apart := false }
def StreamKnownSaid : Prop := streamKnownRow.holds Try.pinned (OpenSpec.ofChange streamKnownSpec)

/-- ITS FALSE NEIGHBOUR: 'it returns false'. Refute it at one input. -/
def streamKnownWrong : ChangeSpec := { name := "streamKnown", fn := fun _ => fun
  | [] => { results := [.lit (.bool false)], args := [] }
  | _ => none }
def StreamKnownWrongFalsely : Prop := streamKnownRow.holds Try.pinned (OpenSpec.ofChange streamKnownWrong)

/-- 'ferrulelaw14.StreamPlays': WHATEVER THE INPUT: true; the input reads as it did. -/
def streamPlaysSpec : ChangeSpec := { name := "streamPlays", fn := fun _ => fun
  | [d1, d2] => { results := [.lit (.bool true)], args := [d1, d2] }
  | _ => none }
def streamPlaysRow : OpenClaim := { program := "ytojgjjgfbbejmaa", sum := "d96a6140505636f0bb37f7c18bca8f36d643b295e712f98705cb442803ea7280", func := "ferrule/ferrulelaw14.StreamPlays", spec := "streamPlays", apart := false }
def StreamPlaysSaid : Prop := streamPlaysRow.holds Try.pinned (OpenSpec.ofChange streamPlaysSpec)

/-- ITS FALSE NEIGHBOUR: 'it returns false'. Refute it at one input. -/
def streamPlaysWrong : ChangeSpec := { name := "streamPlays", fn := fun _ => fun
  | [d1, d2] => { results := [.lit (.bool false)], args := [d1, d2] }
  | _ => none }
def StreamPlaysWrongFalsely : Prop := streamPlaysRow.holds Try.pinned (OpenSpec.ofChange streamPlaysWrong)

/-- 'ferrulelaw14.StreamRuns': WHATEVER THE INPUT: true; the input reads as it did. -/
def streamRunsSpec : ChangeSpec := { name := "streamRuns", fn := fun _ => fun
  | [d1, d2, d3] => { results := [.lit (.bool true)], args := [d1, d2, d3] }
  | _ => none }
def streamRunsRow : OpenClaim := { program := "ytojgjjgfbbejmaa", sum := "d96a6140505636f0bb37f7c18bca8f36d643b295e712f98705cb442803ea7280", func := "ferrule/ferrulelaw14.StreamRuns", spec := "streamRuns", apart := false }
def StreamRunsSaid : Prop := streamRunsRow.holds Try.pinned (OpenSpec.ofChange streamRunsSpec)

/-- ITS FALSE NEIGHBOUR: 'it returns false'. Refute it at one input. -/
def streamRunsWrong : ChangeSpec := { name := "streamRuns", fn := fun _ => fun
  | [d1, d2, d3] => { results := [.lit (.bool false)], args := [d1, d2, d3] }
  | _ => none }
def StreamRunsWrongFalsely : Prop := streamRunsRow.holds Try.pinned (OpenSpec.ofChange streamRunsWrong)

/-- 'ferrulelaw14.StreamLast': WHATEVER THE INPUT: true; the input reads as it did. -/
def streamLastSpec : ChangeSpec := { name := "streamLast", fn := fun _ => fun
  | [d1, d2] => { results := [.lit (.bool true)], args := [d1, d2] }
  | _ => none }
def streamLastRow : OpenClaim := { program := "ytojgjjgfbbejmaa", sum := "d96a6140505636f0bb37f7c18bca8f36d643b295e712f98705cb442803ea7280", func := "ferrule/ferrulelaw14.StreamLast", spec := "streamLast", apart := false }
def StreamLastSaid : Prop := streamLastRow.holds Try.pinned (OpenSpec.ofChange streamLastSpec)

/-- ITS FALSE NEIGHBOUR: 'it returns false'. Refute it at one input. -/
def streamLastWrong : ChangeSpec := { name := "streamLast", fn := fun _ => fun
  | [d1, d2] => { results := [.lit (.bool false)], args := [d1, d2] }
  | _ => none }
def StreamLastWrongFalsely : Prop := streamLastRow.holds Try.pinned (OpenSpec.ofChange streamLastWrong)

/- THE SECOND FORM. 'bulk': how many values and letters a reading holds, each counted each time it is reached (what is shared counts as often as it is met; a slice's spare places count too). A statement '..UptoSaid' is the law's where the arguments, and the package variables that the reading takes, are together of bulk at most 1048576: NARROWER than '..Said'. Prove '..Said' where nothing that the law and all that it calls make is longer than what came in: it says more and counts as full. Else prove '..UptoSaid'. A law counts once. -/
mutual
def uptoBulk {H : Type} : DataW H → Nat
  | .lit (.string bytes) => bytes.length + 1
  | .lit _ => 1
  | .nil => 1
  | .ptr d => uptoBulk d + 1
  | .slice elems spare => uptoBulkAll elems + uptoBulkAll spare + 1
  | .agg parts => uptoBulkAll parts + 1
  | .iface _ d => uptoBulk d + 1
  | .map entries => uptoBulkEntries entries + 1
  | .held _ => 1
def uptoBulkAll {H : Type} : List (DataW H) → Nat
  | [] => 0
  | d :: r => uptoBulk d + uptoBulkAll r
def uptoBulkEntries {H : Type} : List (Lit × DataW H) → Nat
  | [] => 0
  | x :: r => uptoBulkEntry x + uptoBulkEntries r
def uptoBulkEntry {H : Type} : Lit × DataW H → Nat
  | (.string bytes, d) => bytes.length + uptoBulk d + 1
  | (_, d) => uptoBulk d + 1
 end
def uptoSmall : (H : Type) → List (DataW H) → Bool := fun _ ds => decide (uptoBulkAll ds ≤ 1048576)
def OpenSpec.upto (s : _root_.Go.ChangeSpec) : _root_.Go.OpenSpec := { _root_.Go.OpenSpec.ofChange s with cond := some uptoSmall }

/-- 'ferrulelaw14.StreamKnown', WHERE WHAT IT READS IS OF BULK AT MOST 1048576: true; the input reads as it did. -/
def streamKnownUptoRow : OpenClaim := { program := "ytojgjjgfbbejmaa", sum := "d96a6140505636f0bb37f7c18bca8f36d643b295e712f98705cb442803ea7280", func := "ferrule/ferrulelaw14.StreamKnown", spec := "streamKnown", apart := false, narrowed := true }
def StreamKnownUptoSaid : Prop := streamKnownUptoRow.holds Try.pinned (OpenSpec.upto streamKnownSpec)

/-- 'ferrulelaw14.StreamPlays', WHERE WHAT IT READS IS OF BULK AT MOST 1048576: true; the input reads as it did. -/
def streamPlaysUptoRow : OpenClaim := { program := "ytojgjjgfbbejmaa", sum := "d96a6140505636f0bb37f7c18bca8f36d643b295e712f98705cb442803ea7280", func := "ferrule/ferrulelaw14.StreamPlays", spec := "streamPlays", apart := false, narrowed := true }
def StreamPlaysUptoSaid : Prop := streamPlaysUptoRow.holds Try.pinned (OpenSpec.upto streamPlaysSpec)

/-- 'ferrulelaw14.StreamRuns', WHERE WHAT IT READS IS OF BULK AT MOST 1048576: true; the input reads as it did. -/
def streamRunsUptoRow : OpenClaim := { program := "ytojgjjgfbbejmaa", sum := "d96a6140505636f0bb37f7c18bca8f36d643b295e712f98705cb442803ea7280", func := "ferrule/ferrulelaw14.StreamRuns", spec := "streamRuns", apart := false, narrowed := true }
def StreamRunsUptoSaid : Prop := streamRunsUptoRow.holds Try.pinned (OpenSpec.upto streamRunsSpec)

/-- 'ferrulelaw14.StreamLast', WHERE WHAT IT READS IS OF BULK AT MOST 1048576: true; the input reads as it did. -/
def streamLastUptoRow : OpenClaim := { program := "ytojgjjgfbbejmaa", sum := "d96a6140505636f0bb37f7c18bca8f36d643b295e712f98705cb442803ea7280", func := "ferrule/ferrulelaw14.StreamLast", spec := "streamLast", apart := false, narrowed := true }
def StreamLastUptoSaid : Prop := streamLastUptoRow.holds Try.pinned (OpenSpec.upto streamLastSpec)

end Rows
end Go.Proofs.Ytojgjjgfbbejmaa
