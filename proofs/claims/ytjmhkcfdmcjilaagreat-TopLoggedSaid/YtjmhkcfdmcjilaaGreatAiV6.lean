/-
  Call 5 of the sample's run (function 78) gives what was reckoned. (Printed by en.py.)
-/
import Derived.Test.YtjmhkcfdmcjilaaGreatAiV0
namespace Go.Proofs.YtjmhkcfdmcjilaaGreat
namespace Ai
theorem en5_part : partOk Tryz.prog natU 600 en5 = true := by kernel_rfl
theorem en5_ok : EnOk Tryz.prog en5 := part_ok mixed named natU_ok en5_part
end Ai
end Go.Proofs.YtjmhkcfdmcjilaaGreat
