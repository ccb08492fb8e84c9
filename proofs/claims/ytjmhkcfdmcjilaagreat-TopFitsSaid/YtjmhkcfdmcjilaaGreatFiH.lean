/-
  Walk of the flat map: Runs.
-/
import Derived.Test.YtjmhkcfdmcjilaaGreatFiG
set_option linter.unusedVariables false
set_option linter.unusedSimpArgs false
namespace Go.Proofs.YtjmhkcfdmcjilaaGreat
namespace Fi
open Go.RowKit Ai

theorem info94 : (Tryz.prog.info? 94).map (fun i => (i.zero, i.size, i.bytes)) = some (some (.agg #[(.int .i64 0), (.int .i64 0), (.int .i64 0)]), 3, 24) := by kernel_rfl

def runV : List Op3 → List Value
  | [] => []
  | x :: r => .int .i64 x.l :: .int .i64 x.n :: .int .i64 x.p :: runV r

theorem runV_length : ∀ xs : List Op3, (runV xs).length = xs.length * 3
  | [] => rfl
  | x :: r => by simp only [runV, List.length_cons, runV_length r]; omega

theorem runV_append : ∀ xs ys : List Op3, runV (xs ++ ys) = runV xs ++ runV ys
  | [], ys => rfl
  | x :: r, ys => by simp only [List.cons_append, runV, runV_append r ys]

theorem runV_get : ∀ (xs : List Op3) (i : Nat) (x : Op3), xs[i]? = some x → (runV xs)[i * 3]? = some (.int .i64 x.l) ∧ (runV xs)[i * 3 + 1]? = some (.int .i64 x.n) ∧ (runV xs)[i * 3 + 2]? = some (.int .i64 x.p)
  | [], i, x, h => by simp at h
  | y :: r, 0, x, h => by
    simp only [List.getElem?_cons_zero, Option.some.injEq] at h
    subst h
    exact ⟨rfl, rfl, rfl⟩
  | y :: r, i + 1, x, h => by
    simp only [List.getElem?_cons_succ] at h
    obtain ⟨h1, h2, h3⟩ := runV_get r i x h
    have e1 : (i + 1) * 3 = i * 3 + 3 := by omega
    have e2 : (i + 1) * 3 + 1 = (i * 3 + 1) + 3 := by omega
    have e3 : (i + 1) * 3 + 2 = (i * 3 + 2) + 3 := by omega
    rw [e1, show i * 3 + 3 + 1 = (i * 3 + 1) + 3 by omega, show i * 3 + 3 + 2 = (i * 3 + 2) + 3 by omega]
    simp only [runV, List.getElem?_cons_succ]
    exact ⟨h1, h2, h3⟩

theorem runV_set (ys : List Op3) (z : Op3) (n : Int) : (runV (ys ++ [z])).set (ys.length * 3 + 1) (.int .i64 n) = runV (ys ++ [⟨z.l, n, z.p⟩]) := by
  rw [runV_append, runV_append, List.set_append]
  rw [if_neg (by rw [runV_length]; omega), runV_length, show ys.length * 3 + 1 - ys.length * 3 = 1 by omega]
  rfl

theorem runV_one (xs : List Op3) : ∀ u ∈ runV xs, u.oneCell' = true := by
  induction xs with
  | nil => intro u hu; cases hu
  | cons x r ih =>
    intro u hu
    simp only [runV, List.mem_cons] at hu
    rcases hu with rfl | rfl | rfl | h
    · rfl
    · rfl
    · rfl
    · exact ih u h

/-- The last run made longer. -/
def longer : List Op3 → List Op3
  | [] => []
  | [z] => [⟨z.l, z.n + 1, z.p⟩]
  | z :: r => z :: longer r

theorem longer_append (ys : List Op3) (z : Op3) : longer (ys ++ [z]) = ys ++ [⟨z.l, z.n + 1, z.p⟩] := by
  induction ys with
  | nil => rfl
  | cons y r ih =>
    cases r with
    | nil => rfl
    | cons a r => simp only [List.cons_append, longer] at ih ⊢; rw [ih]

/-- The runs of the first sectors of a table. -/
def runsTo (t : List Int) : Nat → List Op3
  | 0 => []
  | k + 1 => if t.getD k (-1) < 0 then runsTo t k else if goes t k then longer (runsTo t k) else runsTo t k ++ [⟨k, 1, t.getD k (-1)⟩]

/-- What stands of the runs of the first sectors: they end ahead of k; the last one ends at k just where k - 1 is mapped. -/
structure RunInv (t : List Int) (k : Nat) (xs : List Op3) : Prop where
  each : ∀ x ∈ xs, 0 ≤ x.l ∧ 1 ≤ x.n ∧ x.l + x.n ≤ k ∧ 0 ≤ x.p ∧ x.p ≤ 2097152
  pair : ∀ (i : Nat) (a x : Op3), xs[i]? = some a → xs[i + 1]? = some x → a.n ≤ x.l - a.l ∧ ¬ (x.l - a.l = a.n ∧ x.p - a.p = a.n)
  last : ∀ (j : Nat) (y : Int), k = j + 1 → t[j]? = some y → 0 ≤ y → ∃ ys z, xs = ys ++ [z] ∧ z.l + z.n = (k : Int) ∧ z.p + z.n = y + 1
  hole : ∀ (j : Nat) (y : Int), k = j + 1 → t[j]? = some y → y < 0 → ∀ x ∈ xs, x.l + x.n < k

theorem pair_append {ys : List Op3} {z : Op3} (h : ∀ (i : Nat) (a x : Op3), ys[i]? = some a → ys[i + 1]? = some x → a.n ≤ x.l - a.l ∧ ¬ (x.l - a.l = a.n ∧ x.p - a.p = a.n))
    (hz : ∀ a, ys.getLast? = some a → a.n ≤ z.l - a.l ∧ ¬ (z.l - a.l = a.n ∧ z.p - a.p = a.n)) :
    ∀ (i : Nat) (a x : Op3), (ys ++ [z])[i]? = some a → (ys ++ [z])[i + 1]? = some x → a.n ≤ x.l - a.l ∧ ¬ (x.l - a.l = a.n ∧ x.p - a.p = a.n) := by
  intro i a x ha hx
  by_cases h1 : i + 1 < ys.length
  · rw [List.getElem?_append_left (by omega)] at ha
    rw [List.getElem?_append_left h1] at hx
    exact h i a x ha hx
  · have hlt := (List.getElem?_eq_some_iff.1 hx).1
    simp only [List.length_append, List.length_cons, List.length_nil] at hlt
    have h2 : i + 1 = ys.length := by omega
    rw [h2, List.getElem?_concat_length, Option.some.injEq] at hx
    subst hx
    rw [List.getElem?_append_left (by omega)] at ha
    refine hz a ?_
    rw [List.getLast?_eq_getElem?, ← h2]
    exact ha

theorem pair_left {ys : List Op3} {z : Op3} (h : ∀ (i : Nat) (a x : Op3), (ys ++ [z])[i]? = some a → (ys ++ [z])[i + 1]? = some x → a.n ≤ x.l - a.l ∧ ¬ (x.l - a.l = a.n ∧ x.p - a.p = a.n)) :
    (∀ (i : Nat) (a x : Op3), ys[i]? = some a → ys[i + 1]? = some x → a.n ≤ x.l - a.l ∧ ¬ (x.l - a.l = a.n ∧ x.p - a.p = a.n)) ∧ (∀ a, ys.getLast? = some a → a.n ≤ z.l - a.l ∧ ¬ (z.l - a.l = a.n ∧ z.p - a.p = a.n)) := by
  refine ⟨fun i a x ha hx => ?_, fun a ha => ?_⟩
  · have h1 := (List.getElem?_eq_some_iff.1 ha).1
    have h2 := (List.getElem?_eq_some_iff.1 hx).1
    exact h i a x (by rw [List.getElem?_append_left h1]; exact ha) (by rw [List.getElem?_append_left h2]; exact hx)
  · have hne : ys ≠ [] := by rintro rfl; cases ha
    rw [List.getLast?_eq_getElem?] at ha
    have hpos := List.length_pos_iff.2 hne
    exact h (ys.length - 1) a z (by rw [List.getElem?_append_left (by omega)]; exact ha) (by rw [show ys.length - 1 + 1 = ys.length by omega, List.getElem?_concat_length])

theorem runInv {t : List Int} (ht : okTab t) : ∀ k, k ≤ t.length → RunInv t k (runsTo t k)
  | 0, _ => ⟨(fun x h => by cases h), (fun i a x h => by simp [runsTo] at h), (fun j y h => by omega), (fun j y h => by omega)⟩
  | k + 1, hk => by
    have ih := runInv ht k (by omega)
    obtain ⟨p, hp⟩ : ∃ p, t[k]? = some p := ⟨_, List.getElem?_eq_getElem (by omega)⟩
    have hpb := ht p (List.mem_of_getElem? hp)
    have hg : t.getD k (-1) = p := by rw [List.getD_eq_getElem?_getD, hp]; rfl
    rw [runsTo, hg]
    by_cases h1 : p < 0
    · rw [if_pos h1]
      refine ⟨fun x hx => ?_, ih.pair, fun j y hj hy h0 => ?_, fun j y hj hy h0 x hx => ?_⟩
      · have := ih.each x hx; omega
      · obtain rfl : j = k := by omega
        rw [hp] at hy; cases hy; omega
      · have := ih.each x hx; omega
    · rw [if_neg h1]
      by_cases h2 : goes t k = true
      · rw [if_pos h2]
        cases k with
        | zero => simp [goes] at h2
        | succ j =>
          obtain ⟨y, hy⟩ : ∃ y, t[j]? = some y := ⟨_, List.getElem?_eq_getElem (by omega)⟩
          rw [goes_succ hp hy, decide_eq_true_eq] at h2
          obtain ⟨ys, z, e, hz1, hz2⟩ := ih.last j y rfl hy h2.2.1
          rw [e, longer_append]
          have hpr := pair_left (by rw [← e]; exact ih.pair)
          have hze := ih.each z (by rw [e]; simp)
          refine ⟨fun x hx => ?_, pair_append hpr.1 (fun a ha => hpr.2 a ha), fun i q hi hq h0 => ?_, fun i q hi hq h0 => ?_⟩
          · simp only [List.mem_append, List.mem_singleton] at hx
            rcases hx with hx | rfl
            · have := ih.each x (by rw [e]; simp [hx]); omega
            · simp only; omega
          · obtain rfl : i = j + 1 := by omega
            rw [hp] at hq; cases hq
            exact ⟨ys, _, rfl, by simp only; omega, by simp only; omega⟩
          · obtain rfl : i = j + 1 := by omega
            rw [hp] at hq; cases hq; omega
      · rw [if_neg h2]
        refine ⟨fun x hx => ?_, pair_append ih.pair (fun a ha => ?_), fun i q hi hq h0 => ?_, fun i q hi hq h0 => ?_⟩
        · simp only [List.mem_append, List.mem_singleton] at hx
          rcases hx with hx | rfl
          · have := ih.each x hx; omega
          · simp only; omega
        · have hmem : a ∈ runsTo t k := List.mem_of_getLast? ha
          have hae := ih.each a hmem
          simp only
          refine ⟨by omega, fun ⟨e1, e2⟩ => ?_⟩
          cases k with
          | zero => omega
          | succ j =>
            obtain ⟨y, hy⟩ : ∃ y, t[j]? = some y := ⟨_, List.getElem?_eq_getElem (by omega)⟩
            by_cases h0 : 0 ≤ y
            · obtain ⟨ys, z, e, hz1, hz2⟩ := ih.last j y rfl hy h0
              rw [e, List.getLast?_concat, Option.some.injEq] at ha
              subst ha
              apply h2
              rw [goes_succ hp hy, decide_eq_true_eq]
              omega
            · have := ih.hole j y rfl hy (by omega) a hmem
              omega
        · obtain rfl : i = k := by omega
          rw [hp] at hq; cases hq
          exact ⟨_, _, rfl, by simp only; omega, by simp only⟩
        · obtain rfl : i = k := by omega
          rw [hp] at hq; cases hq; omega

theorem runsTo_length (t : List Int) : ∀ k, (runsTo t k).length ≤ k
  | 0 => Nat.le_refl _
  | k + 1 => by
    rw [runsTo]
    have := runsTo_length t k
    have hl : ∀ xs : List Op3, (longer xs).length = xs.length := by
      intro xs
      induction xs with
      | nil => rfl
      | cons x r ih => cases r with
        | nil => rfl
        | cons a r => simp only [longer, List.length_cons] at ih ⊢; omega
    split
    · omega
    · split
      · rw [hl]; omega
      · simp; omega
end Fi
end Go.Proofs.YtjmhkcfdmcjilaaGreat
