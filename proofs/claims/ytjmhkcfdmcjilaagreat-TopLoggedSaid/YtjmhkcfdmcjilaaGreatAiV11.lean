/-
  Call 10 of the sample's run (function 34) gives what was reckoned. (Printed by en.py.)
-/
import Derived.Test.YtjmhkcfdmcjilaaGreatAiV0
namespace Go.Proofs.YtjmhkcfdmcjilaaGreat
namespace Ai
theorem en10_part : partOk Tryz.prog natU 600 en10 = true := by kernel_rfl
theorem en10_ok : EnOk Tryz.prog en10 := part_ok mixed named natU_ok en10_part
end Ai
end Go.Proofs.YtjmhkcfdmcjilaaGreat
