/-
  Walks: slices.SortFunc of one key.
-/
import Derived.Test.YtjmhkcfdmcjilaaGreatLoE
set_option linter.unusedVariables false
set_option linter.unusedSimpArgs false
namespace Go.Proofs.YtjmhkcfdmcjilaaGreat
namespace Lo
open Go.RowKit Ai Fi

set_option maxHeartbeats 1000000 in
set_option maxRecDepth 100000 in
theorem len1_ok (w : World) : Calls Tryz.prog 120 #[.int .u64 1] w fun e w' => e = .returned (.int .i64 1) ∧ w' = w := by
  go_enter Tryz.func120, Tryz.ntmps120
  go_wp2_with fail
  go_ret
  refine ⟨?_, rfl⟩
  kernel_rfl

set_option maxRecDepth 100000 in
theorem len95_ok (w : World) : Calls Tryz.prog 95 #[.int .u64 1] w fun e w' => e = .returned (.int .i64 1) ∧ w' = w := by
  go_enter Tryz.func95, Tryz.ntmps95
  go_wp2_with (first | (go_at_call 120; go_loud (refine (len1_ok _).mono ?_; rintro e w2 ⟨rfl, hw⟩; have hw2 := hw.symm; clear hw; subst hw2)))
  go_ret
  exact ⟨rfl, rfl⟩

set_option maxRecDepth 100000 in
theorem ins1_ok (w : World) (s f : Value) : Calls Tryz.prog 126 #[s, .int .i64 0, .int .i64 1, f] w fun e w' => e = .returned (.tuple #[]) ∧ w' = w := by
  go_enter Tryz.func126, Tryz.ntmps126
  go_wp2_with fail
  go_loopw [8] (fun v8 wr => v8 = .int .i64 1 ∧ wr = w) (fun _ _ => 0)
  case atStart => exact ⟨rfl, rfl⟩
  case round =>
    obtain ⟨rfl, rfl⟩ := hrel
    go_wp2_with fail
    refine bodyPost_end (results_none rfl _ _ _) rfl ?_
    exact ⟨rfl, rfl⟩

set_option maxHeartbeats 4000000 in
set_option maxRecDepth 100000 in
theorem pdq1_ok (w : World) (A : Option Addr) (n cap : Nat) (f : Value) (lim : Int) : Calls Tryz.prog 94 #[.slice A n cap, .int .i64 0, .int .i64 1, .int .i64 lim, f] w fun e w' => e = .returned (.tuple #[]) ∧ w' = w := by
  have HI := Ai.Aside.mk (fun W => ins1_ok W (.slice A n cap) f)
  go_enter Tryz.func94, Tryz.ntmps94
  go_wp2_with fail
  go_loopw [1, 2] (fun v1 v2 wr => v1 = .int .i64 0 ∧ v2 = .int .i64 1 ∧ wr = w) (fun _ _ _ => 0)
  case atStart => exact ⟨rfl, rfl, rfl⟩
  case round =>
    obtain ⟨rfl, rfl, rfl⟩ := hrel
    go_wp2_with (first | (go_at_call 126; go_loud (refine (HI.out _).mono ?_; rintro e w2 ⟨rfl, hw⟩; have hw2 := hw.symm; clear hw; subst hw2)))
    refine bodyPost_ret (results_none rfl _ _ _) rfl ?_
    exact ⟨rfl, rfl⟩

set_option maxRecDepth 100000 in
theorem sort1_ok (w : World) (A : Option Addr) (cap : Nat) (f : Value) : Calls Tryz.prog 53 #[.slice A 1 cap, f] w fun e w' => e = .returned (.tuple #[]) ∧ w' = w := by
  have HP := Ai.Aside.mk (fun W => pdq1_ok W A 1 cap f 1)
  go_enter Tryz.func53, Tryz.ntmps53
  go_wp2_with (first | (go_at_call 95; go_loud (refine (len95_ok _).mono ?_; rintro e w2 ⟨rfl, hw⟩; have hw2 := hw.symm; clear hw; subst hw2)) | (go_at_call 94; go_loud (refine (HP.out _).mono ?_; rintro e w2 ⟨rfl, hw⟩; have hw2 := hw.symm; clear hw; subst hw2)))
  refine bodyPost_end (results_none rfl _ _ _) rfl ?_
  exact ⟨rfl, rfl⟩
end Lo
end Go.Proofs.YtjmhkcfdmcjilaaGreat
