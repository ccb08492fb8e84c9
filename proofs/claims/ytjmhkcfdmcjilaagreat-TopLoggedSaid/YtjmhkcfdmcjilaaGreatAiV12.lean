/-
  Call 11 of the sample's run (function 5) gives what was reckoned. (Printed by en.py.)
-/
import Derived.Test.YtjmhkcfdmcjilaaGreatAiV1
import Derived.Test.YtjmhkcfdmcjilaaGreatAiV4
import Derived.Test.YtjmhkcfdmcjilaaGreatAiV5
import Derived.Test.YtjmhkcfdmcjilaaGreatAiV9
import Derived.Test.YtjmhkcfdmcjilaaGreatAiV10
import Derived.Test.YtjmhkcfdmcjilaaGreatAiV11
namespace Go.Proofs.YtjmhkcfdmcjilaaGreat
namespace Ai
theorem en11_part : partOk Tryz.prog (natWith [en0, en3, en4, en8, en9, en10] natU) 600 en11 = true := by kernel_rfl
theorem en11_ok : EnOk Tryz.prog en11 := part_ok mixed named (natWith_ok natU_ok (es := [en0, en3, en4, en8, en9, en10]) (by intro e he; simp only [List.mem_cons, List.not_mem_nil, or_false] at he; rcases he with rfl | rfl | rfl | rfl | rfl | rfl <;> first | exact en0_ok | exact en3_ok | exact en4_ok | exact en8_ok | exact en9_ok | exact en10_ok)) en11_part
end Ai
end Go.Proofs.YtjmhkcfdmcjilaaGreat
