/-
  Call 3 of the sample's run (function 29) gives what was reckoned. (Printed by en.py.)
-/
import Derived.Test.YtjmhkcfdmcjilaaGreatAiV2
import Derived.Test.YtjmhkcfdmcjilaaGreatAiV3
namespace Go.Proofs.YtjmhkcfdmcjilaaGreat
namespace Ai
theorem en3_part : partOk Tryz.prog (natWith [en1, en2] natU) 600 en3 = true := by kernel_rfl
theorem en3_ok : EnOk Tryz.prog en3 := part_ok mixed named (natWith_ok natU_ok (es := [en1, en2]) (by intro e he; simp only [List.mem_cons, List.not_mem_nil, or_false] at he; rcases he with rfl | rfl <;> first | exact en1_ok | exact en2_ok)) en3_part
end Ai
end Go.Proofs.YtjmhkcfdmcjilaaGreat
