/-
  Call 2 of the sample's run (function 73) gives what was reckoned. (Printed by en.py.)
-/
import Derived.Test.YtjmhkcfdmcjilaaGreatAiV0
namespace Go.Proofs.YtjmhkcfdmcjilaaGreat
namespace Ai
theorem en2_part : partOk Tryz.prog natU 600 en2 = true := by kernel_rfl
theorem en2_ok : EnOk Tryz.prog en2 := part_ok mixed named natU_ok en2_part
end Ai
end Go.Proofs.YtjmhkcfdmcjilaaGreat
