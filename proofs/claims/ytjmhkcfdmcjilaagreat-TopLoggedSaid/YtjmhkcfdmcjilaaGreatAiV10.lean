/-
  Call 9 of the sample's run (function 33) gives what was reckoned. (Printed by en.py.)
-/
import Derived.Test.YtjmhkcfdmcjilaaGreatAiV0
namespace Go.Proofs.YtjmhkcfdmcjilaaGreat
namespace Ai
theorem en9_part : partOk Tryz.prog natU 600 en9 = true := by kernel_rfl
theorem en9_ok : EnOk Tryz.prog en9 := part_ok mixed named natU_ok en9_part
end Ai
end Go.Proofs.YtjmhkcfdmcjilaaGreat
