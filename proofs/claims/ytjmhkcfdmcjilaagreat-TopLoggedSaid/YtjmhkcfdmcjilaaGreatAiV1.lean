/-
  Call 0 of the sample's run (function 25) gives what was reckoned. (Printed by en.py.)
-/
import Derived.Test.YtjmhkcfdmcjilaaGreatAiV0
namespace Go.Proofs.YtjmhkcfdmcjilaaGreat
namespace Ai
theorem en0_part : partOk Tryz.prog natU 600 en0 = true := by kernel_rfl
theorem en0_ok : EnOk Tryz.prog en0 := part_ok mixed named natU_ok en0_part
end Ai
end Go.Proofs.YtjmhkcfdmcjilaaGreat
