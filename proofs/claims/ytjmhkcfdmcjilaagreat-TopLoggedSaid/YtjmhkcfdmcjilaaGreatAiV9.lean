/-
  Call 8 of the sample's run (function 31) gives what was reckoned. (Printed by en.py.)
-/
import Derived.Test.YtjmhkcfdmcjilaaGreatAiV7
import Derived.Test.YtjmhkcfdmcjilaaGreatAiV8
namespace Go.Proofs.YtjmhkcfdmcjilaaGreat
namespace Ai
theorem en8_part : partOk Tryz.prog (natWith [en6, en7] natU) 600 en8 = true := by kernel_rfl
theorem en8_ok : EnOk Tryz.prog en8 := part_ok mixed named (natWith_ok natU_ok (es := [en6, en7]) (by intro e he; simp only [List.mem_cons, List.not_mem_nil, or_false] at he; rcases he with rfl | rfl <;> first | exact en6_ok | exact en7_ok)) en8_part
end Ai
end Go.Proofs.YtjmhkcfdmcjilaaGreat
