/-
  Walks: leaf.Pages, size.within, size.up, size.length; the length of a number's bytes.
-/
import Derived.Test.YtjmhkcfdmcjilaaGreatFiK
import Derived.StillTailTactics
import Derived.Test.YtjmhkcfdmcjilaaGreatFiN
set_option linter.unusedVariables false
set_option linter.unusedSimpArgs false
namespace Go.Proofs.YtjmhkcfdmcjilaaGreat
namespace Fi
open Go.RowKit Ai

/-- How many bytes a number has (numbers below 16384). -/
def len2 (x : Int) : Int := if x < 128 then 1 else 2

def pagesV (x : Int) : Int := if x < 0 ∨ 65536 < x then 0 else if (x + 31) / 32 < 1 then 1 else (x + 31) / 32

set_option maxHeartbeats 1000000 in
set_option maxRecDepth 100000 in
theorem pages_ok (x : Int) (w : World) : Calls Tryz.prog 12 #[.int .i64 x] w fun e w' => e = .returned (.int .i64 (pagesV x)) ∧ w' = w := by
  obtain ⟨r, hr⟩ : ∃ r, r = pagesV x := ⟨_, rfl⟩
  rw [← hr]
  have HR := Aside.mk hr
  clear hr
  go_enter Tryz.func12, Tryz.ntmps12
  go_wp2_with fail
  all_goals
    go_ret
    refine ⟨?_, rfl⟩
    rw [HR.out]
    unfold pagesV
    first
      | (show Ending.returned (Value.int .i64 0) = _; rw [if_pos (by omega)])
      | (show Ending.returned (Value.int .i64 1) = _; rw [if_neg (by omega)]; refine congrArg (fun z => Ending.returned (Value.int .i64 z)) ?_; split <;> omega)
      | (show Ending.returned (Value.int .i64 ((x + 32 - 1) / 32)) = _; rw [if_neg (by omega)]; refine congrArg (fun z => Ending.returned (Value.int .i64 z)) ?_; split <;> omega)
      | (show Ending.returned (Value.int .i64 (max 1 ((x + 32 - 1) / 32))) = _; rw [if_neg (by omega)]; refine congrArg (fun z => Ending.returned (Value.int .i64 z)) ?_; rw [Int.max_def]; split <;> split <;> omega)

set_option maxHeartbeats 1000000 in
set_option maxRecDepth 100000 in
theorem up_ok (a b : Int) (hb : 1 ≤ b ∧ b ≤ 100000) (ha : 0 ≤ a ∧ a ≤ 100000) (w : World) : Calls Tryz.prog 40 #[.int .i64 a, .int .i64 b] w fun e w' => e = .returned (.int .i64 ((a + b - 1) / b)) ∧ w' = w := by
  go_enter Tryz.func40, Tryz.ntmps40
  go_wp2_with fail
  go_ret
  exact ⟨rfl, rfl⟩

set_option maxHeartbeats 1000000 in
set_option maxRecDepth 100000 in
theorem within_ok (v a b : Int) (h : a ≤ v ∧ v ≤ b) (w : World) : Calls Tryz.prog 38 #[.int .i64 v, .int .i64 a, .int .i64 b] w fun e w' => e = .returned (.bool true) ∧ w' = w := by
  obtain ⟨h1, h2⟩ := h
  go_enter Tryz.func38, Tryz.ntmps38
  go_wp2_with fail
  go_ret
  exact ⟨rfl, rfl⟩

theorem bl_le : ∀ (f x k : Nat), x < 2 ^ k → Lib.bitLenAux f x ≤ k
  | 0, x, k, h => Nat.zero_le _
  | f + 1, x, 0, h => by
    rw [Lib.bitLenAux, if_pos (by simpa using h)]
    exact Nat.le_refl _
  | f + 1, x, k + 1, h => by
    rw [Lib.bitLenAux]
    split
    · exact Nat.zero_le _
    · have := bl_le f (x / 2) k (by rw [Nat.pow_succ] at h; omega)
      omega

theorem bl_gt : ∀ (f x k : Nat), 2 ^ k ≤ x → k < f → k + 1 ≤ Lib.bitLenAux f x
  | 0, x, k, h, hf => by omega
  | f + 1, x, 0, h, hf => by
    rw [Lib.bitLenAux, if_neg (by simp at h; omega)]
    omega
  | f + 1, x, k + 1, h, hf => by
    have hp : 0 < 2 ^ k := Nat.pow_pos (by omega)
    rw [Lib.bitLenAux, if_neg (by rw [Nat.pow_succ] at h; omega)]
    have := bl_gt f (x / 2) k (by rw [Nat.pow_succ] at h; omega) (by omega)
    omega

set_option maxHeartbeats 1000000 in
set_option maxRecDepth 100000 in
theorem vlen_ok (x : Int) (h0 : 0 ≤ x) (h : x < 16384) (w : World) : Calls Tryz.prog 85 #[.int .u64 x] w fun e w' => e = .returned (.int .i64 (len2 x)) ∧ w' = w := by
  have HC := Aside.mk (bits_Len64 x w h0 (by omega))
  obtain ⟨r, hr⟩ : ∃ r, r = len2 x := ⟨_, rfl⟩
  rw [← hr]
  by_cases hx : x < 128
  · have hb : Lib.bitLen x.toNat ≤ 7 := bl_le 64 x.toNat 7 (by omega)
    have hr1 : r = 1 := by rw [hr, len2, if_pos hx]
    clear hr
    subst hr1
    generalize Lib.bitLen x.toNat = q at *
    have hq : ((q : Int) + 6) / 7 ≤ 1 := by omega
    have hmx : max (1 : Int) (((q : Int) + 6) / 7) = 1 := by rw [Int.max_def]; split <;> omega
    go_enter Tryz.func85, Tryz.ntmps85
    go_wp2_with (go_at_call 120; go_loud (refine HC.out.mono ?_; rintro e w1 ⟨rfl, rfl⟩))
    all_goals first
      | (exfalso; omega)
      | (go_ret; exact ⟨rfl, rfl⟩)
  · have hb : Lib.bitLen x.toNat ≤ 14 := bl_le 64 x.toNat 14 (by omega)
    have hb2 : 8 ≤ Lib.bitLen x.toNat := bl_gt 64 x.toNat 7 (by omega) (by omega)
    have hr1 : r = 2 := by rw [hr, len2, if_neg hx]
    clear hr
    subst hr1
    generalize Lib.bitLen x.toNat = q at *
    have hq : ((q : Int) + 6) / 7 = 2 := by omega
    go_enter Tryz.func85, Tryz.ntmps85
    go_wp2_with (go_at_call 120; go_loud (refine HC.out.mono ?_; rintro e w1 ⟨rfl, rfl⟩))
    all_goals first
      | (exfalso; omega)
      | (go_ret; exact ⟨rfl, rfl⟩)

set_option maxHeartbeats 1000000 in
set_option maxRecDepth 100000 in
theorem length_ok (x : Int) (h0 : 0 ≤ x) (h : x < 16384) (w : World) : Calls Tryz.prog 39 #[.int .i64 x] w fun e w' => e = .returned (.int .i64 (len2 x)) ∧ w' = w := by
  have HC := Aside.mk (vlen_ok x h0 h w)
  have hm : x % 18446744073709551616 = x := by omega
  go_enter Tryz.func39, Tryz.ntmps39
  go_wp2_with (go_at_call 85; go_loud (refine HC.out.mono ?_; rintro e w1 ⟨rfl, rfl⟩))
  go_ret
  exact ⟨rfl, rfl⟩
end Fi
end Go.Proofs.YtjmhkcfdmcjilaaGreat
