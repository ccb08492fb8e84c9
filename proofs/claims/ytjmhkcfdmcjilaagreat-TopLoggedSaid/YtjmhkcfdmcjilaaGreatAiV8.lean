/-
  Call 7 of the sample's run (function 78) gives what was reckoned. (Printed by en.py.)
-/
import Derived.Test.YtjmhkcfdmcjilaaGreatAiV0
namespace Go.Proofs.YtjmhkcfdmcjilaaGreat
namespace Ai
theorem en7_part : partOk Tryz.prog natU 600 en7 = true := by kernel_rfl
theorem en7_ok : EnOk Tryz.prog en7 := part_ok mixed named natU_ok en7_part
end Ai
end Go.Proofs.YtjmhkcfdmcjilaaGreat
