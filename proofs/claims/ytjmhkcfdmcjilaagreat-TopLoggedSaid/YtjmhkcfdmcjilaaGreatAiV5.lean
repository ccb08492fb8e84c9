/-
  Call 4 of the sample's run (function 32) gives what was reckoned. (Printed by en.py.)
-/
import Derived.Test.YtjmhkcfdmcjilaaGreatAiV0
namespace Go.Proofs.YtjmhkcfdmcjilaaGreat
namespace Ai
theorem en4_part : partOk Tryz.prog natU 600 en4 = true := by kernel_rfl
theorem en4_ok : EnOk Tryz.prog en4 := part_ok mixed named natU_ok en4_part
end Ai
end Go.Proofs.YtjmhkcfdmcjilaaGreat
