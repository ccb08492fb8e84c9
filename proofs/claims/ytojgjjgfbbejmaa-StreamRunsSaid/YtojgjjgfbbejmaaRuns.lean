/- StreamRuns: streams that go on by turns stay apart. The plain law over lists, then the walk. -/
import Derived.Test.YtojgjjgfbbejmaaAwake
namespace Go.Proofs.Ytojgjjgfbbejmaa
open Go.RowKit
set_option linter.unusedVariables false
set_option linter.unusedSimpArgs false

/-- The streams behind t whole turns and i commands of the next one. -/
def runsL (n s t i : Nat) : List One := (List.range n).map fun (j : Nat) =>
  if j < i then (100000 * (j : Int) + (t + 1) * s, (t : Int) * n + j + 1, (t : Int) + 1) else if t = 0 then (-1, 0, 0) else (100000 * (j : Int) + t * s, ((t : Int) - 1) * n + j + 1, (t : Int))
theorem runsL_length (n s t i : Nat) : (runsL n s t i).length = n := by simp [runsL]
theorem runsL_get (n s t i j : Nat) (h : j < n) : (runsL n s t i).getD j z3 =
    if j < i then (100000 * (j : Int) + (t + 1) * s, (t : Int) * n + j + 1, (t : Int) + 1) else if t = 0 then (-1, 0, 0) else (100000 * (j : Int) + t * s, ((t : Int) - 1) * n + j + 1, (t : Int)) := by
  rw [getD_at _ _ (by rw [runsL_length]; exact h)]; simp [runsL]

theorem best_none (l : List One) (lba : Int) (h : ∀ j, j < l.length → (l.getD j z3).1 ≠ lba) : ∀ k, k ≤ l.length → bestTo l lba k = -1 := by
  intro k
  induction k with
  | zero => intro _; rfl
  | succ k ih => intro hk; unfold bestTo; rw [if_neg (fun e => h k (by omega) e.1)]; exact ih (by omega)
theorem best_one (l : List One) (lba : Int) (i : Nat) (hi : (l.getD i z3).1 = lba) (h : ∀ j, j < l.length → j ≠ i → (l.getD j z3).1 ≠ lba) : ∀ k, k ≤ l.length → bestTo l lba k = if i < k then (i : Int) else -1 := by
  intro k
  induction k with
  | zero => intro _; rfl
  | succ k ih =>
    intro hk
    have e := ih (by omega)
    unfold bestTo
    by_cases hki : k = i
    · subst hki
      rw [if_pos ⟨hi, .inl (by rw [e, if_neg (by omega)]; omega)⟩, if_pos (by omega)]
    · rw [if_neg (fun e => h k (by omega) hki e.1), e]
      by_cases h1 : i < k
      · rw [if_pos h1, if_pos (by omega)]
      · rw [if_neg h1, if_neg (by omega)]
theorem old_first (l : List One) (i : Nat) (h1 : ∀ j, j < i → 0 < (l.getD j z3).2.1) (h3 : ∀ j k, j ≤ k → k < i → (l.getD j z3).2.1 ≤ (l.getD k z3).2.1) (h2 : ∀ j, i ≤ j → j < l.length → (l.getD j z3).2.1 = 0) (hi : i < l.length) :
    ∀ k, k ≤ l.length → oldTo l k = if i < k then i else 0 := by
  intro k
  induction k with
  | zero => intro _; rfl
  | succ k ih =>
    intro hk
    have e := ih (by omega)
    unfold oldTo
    rw [e]
    by_cases h4 : i < k
    · rw [if_pos h4, if_neg (by rw [h2 k (by omega) (by omega), h2 i (by omega) hi]; omega), if_pos (by omega)]
    · rw [if_neg h4]
      by_cases hki : k = i
      · subst hki
        rw [if_pos (show k < k + 1 by omega), h2 k (by omega) hi]
        by_cases h0 : k = 0
        · subst h0; split <;> rfl
        · rw [if_pos (h1 0 (by omega))]
      · rw [if_neg (by have := h3 0 k (by omega) (by omega); omega), if_neg (by omega)]

theorem runs_step (n s t i : Nat) (hn : n ≤ 16) (hs : 1 ≤ s ∧ s ≤ 100) (ht : t < 50) (hi : i < n) :
    feedAt (runsL n s t i) (100000 * (i : Int) + t * s) = i ∧ feedL (runsL n s t i) ((t : Int) * n + i) (100000 * (i : Int) + t * s) s = runsL n s t (i + 1) := by
  have hb : bestTo (runsL n s t i) (100000 * (i : Int) + t * s) n = if t = 0 then -1 else (i : Int) := by
    by_cases h0 : t = 0
    · subst h0
      rw [if_pos rfl]
      refine best_none _ _ (fun j hj => ?_) n (by rw [runsL_length]; exact Nat.le_refl _)
      rw [runsL_length] at hj
      rw [runsL_get _ _ _ _ _ hj]
      split
      · simp; omega
      · simp; omega
    · rw [if_neg h0]
      have := best_one (runsL n s t i) (100000 * (i : Int) + t * s) i (by rw [runsL_get _ _ _ _ _ hi, if_neg (by omega), if_neg h0]) (fun j hj hji => by
        rw [runsL_length] at hj
        rw [runsL_get _ _ _ _ _ hj]
        by_cases hlt : j < i
        · rw [if_pos hlt]
          show 100000 * (j : Int) + (t + 1) * s ≠ _
          rw [Int.add_mul]; omega
        · rw [if_neg hlt, if_neg h0]
          show 100000 * (j : Int) + t * s ≠ _
          omega) n (by rw [runsL_length]; exact Nat.le_refl _)
      rw [this, if_pos hi]
  have hat : feedAt (runsL n s t i) (100000 * (i : Int) + t * s) = i := by
    unfold feedAt
    rw [runsL_length, hb]
    by_cases h0 : t = 0
    · subst h0
      rw [if_pos rfl, if_pos (by omega)]
      rw [old_first (runsL n s 0 i) i (fun j hj => by rw [runsL_get _ _ _ _ _ (by omega), if_pos hj]; simp <;> omega)
        (fun j k hjk hk => by rw [runsL_get _ _ _ _ _ (by omega), runsL_get _ _ _ _ _ (by omega), if_pos hk, if_pos (by omega)]; simp <;> omega)
        (fun j hj hj2 => by rw [runsL_length] at hj2; rw [runsL_get _ _ _ _ _ hj2, if_neg (by omega), if_pos rfl]) (by rw [runsL_length]; exact hi) n (by rw [runsL_length]; exact Nat.le_refl _), if_pos hi]
    · rw [if_neg h0, if_neg (by omega)]; simp
  refine ⟨hat, ?_⟩
  unfold feedL
  rw [hat, runsL_length, hb]
  apply List.ext_getElem
  · simp [runsL_length]
  · intro j h1 h2
    rw [runsL_length] at h2
    have e2 : (runsL n s t (i + 1))[j]'(by rw [runsL_length]; exact h2) = (runsL n s t (i + 1)).getD j z3 := (getD_at _ _ _).symm
    have e1 : (runsL n s t i)[j]'(by rw [runsL_length]; exact h2) = (runsL n s t i).getD j z3 := (getD_at _ _ _).symm
    rw [List.getElem_set]
    have hR := runsL_get n s t (i + 1) j h2
    have hL := runsL_get n s t i j h2
    by_cases hij : i = j
    · subst hij
      rw [if_pos rfl, e2]
      rw [if_pos (by omega)] at hR
      rw [if_neg (by omega)] at hL
      rw [hR]
      by_cases h0 : t = 0
      · subst h0; simp
      · rw [if_neg h0] at hL
        rw [if_neg h0, if_neg (by omega), hL]
        refine Prod.ext ?_ (Prod.ext ?_ ?_)
        · show 100000 * (i : Int) + t * s + s = 100000 * (i : Int) + (t + 1) * s
          rw [Int.add_mul]; omega
        · rfl
        · rfl
    · rw [if_neg hij, e1, e2, hR, hL]
      by_cases hlt : j < i
      · rw [if_pos hlt, if_pos (show j < i + 1 by omega)]
      · rw [if_neg hlt, if_neg (show ¬ j < i + 1 by omega)]

theorem runs_turn (n s t : Nat) : runsL n s t n = runsL n s (t + 1) 0 := by
  apply List.ext_getElem
  · simp [runsL_length]
  · intro j h1 h2
    rw [runsL_length] at h1
    have e2 : (runsL n s (t + 1) 0)[j]'(by rw [runsL_length]; exact h1) = (runsL n s (t + 1) 0).getD j z3 := (getD_at _ _ _).symm
    have e1 : (runsL n s t n)[j]'(by rw [runsL_length]; exact h1) = (runsL n s t n).getD j z3 := (getD_at _ _ _).symm
    rw [e1, e2, runsL_get _ _ _ _ _ h1, runsL_get _ _ _ _ _ h1, if_pos h1, if_neg (by omega), if_neg (by omega)]
    simp
theorem runs_start (n s : Nat) : runsL n s 0 0 = List.replicate n (-1, 0, 0) := by
  apply List.ext_getElem
  · simp [runsL_length]
  · intro j h1 h2
    rw [runsL_length] at h1
    have e1 : (runsL n s 0 0)[j]'(by rw [runsL_length]; exact h1) = (runsL n s 0 0).getD j z3 := (getD_at _ _ _).symm
    rw [e1, runsL_get _ _ _ _ _ h1, if_neg (by omega), if_pos rfl]; simp
theorem runs_long (n s t i j : Nat) (ht : t < 50) (h : j < (runsL n s t i).length) : 0 ≤ ((runsL n s t i).getD j z3).2.2 ∧ ((runsL n s t i).getD j z3).2.2 ≤ 100000 := by
  rw [runsL_length] at h
  rw [runsL_get _ _ _ _ _ h]
  split
  · simp; omega
  · split
    · simp
    · simp; omega
theorem runs_long_at (n s t i : Nat) (h : i < n) : ((runsL n s t (i + 1)).getD i z3).2.2 = (t : Int) + 1 := by
  rw [runsL_get _ _ _ _ _ h, if_pos (by omega)]

set_option maxHeartbeats 400000 in
set_option maxRecDepth 100000 in
theorem runs_out (n turns step : Int) (w : World) (h : n < 1 ∨ 16 < n ∨ turns < 1 ∨ 50 < turns ∨ step < 1 ∨ 100 < step) :
    Calls Try.prog 5 #[.int .i64 n, .int .i64 turns, .int .i64 step] w fun e w' => e = .returned (.bool true) ∧ Below w.heap.size w w' := by
  have hc : (n < 1) ∨ (¬ n < 1 ∧ 16 < n) ∨ (¬ n < 1 ∧ ¬ 16 < n ∧ turns < 1) ∨ (¬ n < 1 ∧ ¬ 16 < n ∧ ¬ turns < 1 ∧ 50 < turns) ∨ (¬ n < 1 ∧ ¬ 16 < n ∧ ¬ turns < 1 ∧ ¬ 50 < turns ∧ step < 1) ∨ (¬ n < 1 ∧ ¬ 16 < n ∧ ¬ turns < 1 ∧ ¬ 50 < turns ∧ ¬ step < 1 ∧ 100 < step) := by omega
  clear h
  rcases hc with h | ⟨h1, h⟩ | ⟨h1, h2, h⟩ | ⟨h1, h2, h3, h⟩ | ⟨h1, h2, h3, h4, h⟩ | ⟨h1, h2, h3, h4, h5, h⟩
  all_goals
    go_enter Try.func5, Try.ntmps5
    go_wp2_with (go_at_call 7; refine (awake_ok _).mono ?_; rintro e w1 ⟨rfl, hb⟩)
    go_ret
    exact ⟨rfl, hb⟩

def RunsRel (w wr : World) (g B : Nat) (n s t i : Nat) : Prop := IsDet wr g B (runsL n s t i) ((t : Int) * n + i) ∧ Below w.heap.size w wr ∧ w.heap.size ≤ g ∧ w.heap.size ≤ B ∧ g ≠ B

set_option maxHeartbeats 400000 in
set_option maxRecDepth 100000 in
theorem runs_in (n turns s : Nat) (w : World) (h1 : 1 ≤ n) (h2 : n ≤ 16) (h3 : 1 ≤ turns) (h4 : turns ≤ 50) (h5 : 1 ≤ s) (h6 : s ≤ 100) :
    Calls Try.prog 5 #[.int .i64 n, .int .i64 turns, .int .i64 s] w fun e w' => e = .returned (.bool true) ∧ Below w.heap.size w w' := by
  go_enter Try.func5, Try.ntmps5
  go_wp2_with fail
  refine (awake_ok _).mono ?_
  rintro e w1 ⟨rfl, hb⟩
  have HB := Aside.mk hb
  clear hb
  go_wp2_with fail
  refine (new_ok n _ h1 h2).mono ?_
  rintro e w2 ⟨rfl, hd, hb⟩
  have HR : Aside (RunsRel w w2 (w1.heap.size + 1) w1.heap.size n s 0 0) :=
    ⟨by simpa [runs_start] using hd, HB.out.trans (hb.mono HB.out.size), by have := HB.out.size; omega, HB.out.size, by omega⟩
  clear hd hb HB
  generalize w1.heap.size + 1 = g at *
  generalize w1.heap.size = B at *
  go_wp2_with fail
  go_loopw [9] (fun v9 wr => ∃ t : Nat, t ≤ turns ∧ v9 = .int .i64 t ∧ Aside (RunsRel w wr g B n s t 0)) (fun v _ => turns - (intOf v).toNat)
  case atStart => exact ⟨0, by omega, rfl, HR⟩
  case round =>
    obtain ⟨t, ht, rfl, HR⟩ := hrel
    by_cases hlt : t < turns
    · have hts : 0 ≤ (t : Int) * s ∧ (t : Int) * s ≤ 5000 := by
        have a : t * s ≤ 50 * 100 := Nat.mul_le_mul (by omega) h6
        have b : ((t * s : Nat) : Int) = (t : Int) * s := by simp
        omega
      go_wp2_with fail
      obtain ⟨wo, rfl⟩ : ∃ wo : World, wo = wr := ⟨_, rfl⟩
      go_loopw [10] (fun v10 wr => ∃ i : Nat, i ≤ n ∧ v10 = .int .i64 i ∧ Aside (RunsRel w wr g B n s t i)) (fun v _ => n - (intOf v).toNat)
      case atStart => exact ⟨0, by omega, rfl, HR⟩
      case round =>
        obtain ⟨i, hi, rfl, HR⟩ := hrel
        by_cases hlt2 : i < n
        · go_wp2_with fail
          obtain ⟨hd, hb, hg, hB, hne⟩ := HR.out
          have htn : 0 ≤ (t : Int) * n ∧ (t : Int) * n ≤ 800 := by
            have a : t * n ≤ 50 * 16 := Nat.mul_le_mul (by omega) h2
            have b : ((t * n : Nat) : Int) = (t : Int) * n := by simp
            omega
          refine (feed_ok g B _ _ _ _ _ hd hne (by rw [runsL_length]; omega) (by omega) (fun j hj => runs_long n s t i j (by omega) hj) (by unfold Good; omega)).mono ?_
          rintro e w3 ⟨rfl, hd3, hF⟩
          obtain ⟨r1, r2⟩ := runs_step n s t i h2 ⟨h5, h6⟩ (by omega) hlt2
          rw [r2] at hd3
          rw [r1]
          have HR : Aside (RunsRel w w3 g B n s t (i + 1)) := ⟨by rw [show (t : Int) * n + ((i + 1 : Nat) : Int) = (t : Int) * n + i + 1 by omega]; exact hd3,
            hb.trans ⟨hF.os, hF.tape, hF.output, hF.size, fun k hk => hF.block k (Nat.lt_of_lt_of_le hk hb.size) (by omega)⟩, hg, hB, hne⟩
          clear hd hb hd3 hF r1 r2 htn
          go_wp2_with fail
          refine (long_ok g B _ _ i _ HR.out.1 (by rw [runsL_length]; omega) (by rw [runsL_length]; omega)).mono ?_
          rintro e w4 ⟨rfl, rfl⟩
          rw [runs_long_at n s t i hlt2]
          go_wp2_with fail
          go_roundw
          case rel => exact ⟨i + 1, by omega, by go_num, HR⟩
          case measure => simp [intOf]; omega
        · have : i = n := by omega
          subst this
          go_wp2_with fail
          go_roundw
          case rel =>
            refine ⟨t + 1, by omega, by go_num, ?_⟩
            have h := HR.out
            unfold RunsRel at h
            rw [runs_turn] at h
            refine ⟨?_, h.2⟩
            have e1 : ((t + 1 : Nat) : Int) * (i : Int) + ((0 : Nat) : Int) = (t : Int) * i + i := by
              rw [show ((t + 1 : Nat) : Int) = (t : Int) + 1 from rfl, Int.add_mul]; simp
            rw [e1]; exact h.1
          case measure => simp [intOf]; omega
    · go_wp2_with fail
      go_ret
      exact ⟨rfl, HR.out.2.1⟩
end Go.Proofs.Ytojgjjgfbbejmaa
