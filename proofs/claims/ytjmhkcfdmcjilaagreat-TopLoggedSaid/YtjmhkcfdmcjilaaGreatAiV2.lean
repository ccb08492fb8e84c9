/-
  Call 1 of the sample's run (function 73) gives what was reckoned. (Printed by en.py.)
-/
import Derived.Test.YtjmhkcfdmcjilaaGreatAiV0
namespace Go.Proofs.YtjmhkcfdmcjilaaGreat
namespace Ai
theorem en1_part : partOk Tryz.prog natU 600 en1 = true := by kernel_rfl
theorem en1_ok : EnOk Tryz.prog en1 := part_ok mixed named natU_ok en1_part
end Ai
end Go.Proofs.YtjmhkcfdmcjilaaGreat
