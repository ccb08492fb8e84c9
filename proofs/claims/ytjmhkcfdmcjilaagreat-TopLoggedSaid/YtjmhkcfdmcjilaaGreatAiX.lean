/-
  The closed run of ferruletop.awake returns true in every world, and turns nothing below the world's first new block.
-/
import Derived.Test.YtjmhkcfdmcjilaaGreatAiV12
namespace Go.Proofs.YtjmhkcfdmcjilaaGreat
namespace Ai

theorem awake_ok (w : World) : Calls Tryz.prog 5 #[] w (fun x w' => x = .returned (.bool true) ∧ Go.RowKit.Below w.heap.size w w') :=
  closed_of en11_ok rfl rfl (u := .bool true) rfl Tryz.func5 rfl named w
end Ai
end Go.Proofs.YtjmhkcfdmcjilaaGreat
