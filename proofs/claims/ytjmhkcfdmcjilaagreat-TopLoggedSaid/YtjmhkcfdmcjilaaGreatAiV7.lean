/-
  Call 6 of the sample's run (function 77) gives what was reckoned. (Printed by en.py.)
-/
import Derived.Test.YtjmhkcfdmcjilaaGreatAiV6
namespace Go.Proofs.YtjmhkcfdmcjilaaGreat
namespace Ai
theorem en6_part : partOk Tryz.prog (natWith [en5] natU) 600 en6 = true := by kernel_rfl
theorem en6_ok : EnOk Tryz.prog en6 := part_ok mixed named (natWith_ok natU_ok (es := [en5]) (by intro e he; simp only [List.mem_cons, List.not_mem_nil, or_false] at he; rcases he with rfl <;> first | exact en5_ok)) en6_part
end Ai
end Go.Proofs.YtjmhkcfdmcjilaaGreat
