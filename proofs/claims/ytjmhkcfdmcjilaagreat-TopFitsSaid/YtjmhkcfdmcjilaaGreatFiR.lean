/-
  The plain law of TopFits: what a snapshot and a record come to is no more than what size says.
-/
import Derived.Test.YtjmhkcfdmcjilaaGreatFiP
import Derived.Test.YtjmhkcfdmcjilaaGreatFiM
set_option linter.unusedVariables false
set_option linter.unusedSimpArgs false
namespace Go.Proofs.YtjmhkcfdmcjilaaGreat
namespace Fi
open Go.RowKit Ai

theorem enc_len {v : Nat} {V : Int} (h : (v : Int) ≤ V) (hV : V < 16384) : ((enc v).length : Int) ≤ len2 V := by
  unfold len2
  by_cases hv : v < 128
  · rw [enc_small hv]
    simp only [List.length_cons, List.length_nil]
    split <;> omega
  · rw [if_neg (by omega)]
    have := enc_length_le 1 v (by omega)
    omega

theorem len2_pos (x : Int) : 1 ≤ len2 x := by unfold len2; split <;> omega
theorem len2_le (x : Int) : len2 x ≤ 2 := by unfold len2; split <;> omega

theorem snap_len (C B : Int) (hC : C < 8000) (hB : B < 8000) : ∀ (xs : List Op3) (lba phys : Int), 0 ≤ lba → lba ≤ C → 0 ≤ phys → phys ≤ B → (∀ x ∈ xs, 0 ≤ x.l ∧ 1 ≤ x.n ∧ x.l + x.n ≤ C ∧ 0 ≤ x.p ∧ x.p + x.n ≤ B) →
    ((snapB lba phys xs).length : Int) ≤ xs.length * (2 * len2 C + len2 (2 * B + 1))
  | [], _, _, _, _, _, _, _ => by simp [snapB]
  | x :: r, lba, phys, h1, h2, h3, h4, h => by
    obtain ⟨a1, a2, a3, a4, a5⟩ := h x (by simp)
    have ih := snap_len C B hC hB r (x.l + x.n) (x.p + x.n) (by omega) (by omega) (by omega) (by omega) (fun y hy => h y (by simp [hy]))
    have e1 : ((enc (x.l - lba).toNat).length : Int) ≤ len2 C := enc_len (by omega) (by omega)
    have e2 : ((enc (x.n - 1).toNat).length : Int) ≤ len2 C := enc_len (by omega) (by omega)
    have e3 : ((enc (zig (x.p - phys))).length : Int) ≤ len2 (2 * B + 1) := enc_len (by unfold zig; split <;> omega) (by omega)
    rw [snapB]
    simp only [List.length_append, List.length_cons, Int.natCast_add, Int.add_mul]
    generalize len2 C = q1 at *
    generalize len2 (2 * B + 1) = q2 at *
    simp only [Int.natCast_one, Int.one_mul]
    omega

theorem rec_len (C B : Int) (hC : C < 8000) (hB : B < 8000) : ∀ (xs : List Op3) (lba phys : Int), 0 ≤ lba → lba ≤ C → 0 ≤ phys → phys ≤ B → (∀ x ∈ xs, 0 ≤ x.l ∧ 1 ≤ x.n ∧ x.l + x.n ≤ C ∧ -1 ≤ x.p ∧ x.p + x.n ≤ B) →
    ((recB lba phys xs).length : Int) ≤ xs.length * (len2 (2 * C + 1) + len2 C + len2 (2 * B + 3))
  | [], _, _, _, _, _, _, _ => by simp [recB]
  | x :: r, lba, phys, h1, h2, h3, h4, h => by
    obtain ⟨a1, a2, a3, a4, a5⟩ := h x (by simp)
    have e1 : ((enc (zig (x.l - lba))).length : Int) ≤ len2 (2 * C + 1) := enc_len (by unfold zig; split <;> omega) (by omega)
    have e2 : ((enc x.n.toNat).length : Int) ≤ len2 C := enc_len (by omega) (by omega)
    have hr := fun y (hy : y ∈ r) => h y (by simp [hy])
    by_cases hp : x.p < 0
    · have ih := rec_len C B hC hB r (x.l + x.n) phys (by omega) (by omega) (by omega) (by omega) hr
      have e3 : ((enc (0 : Int).toNat).length : Int) ≤ len2 (2 * B + 3) := enc_len (by simp; omega) (by omega)
      rw [rec_neg hp]
      simp only [List.length_append, List.length_cons, Int.natCast_add, Int.add_mul]
      generalize len2 (2 * C + 1) = q1 at *
      generalize len2 C = q2 at *
      generalize len2 (2 * B + 3) = q3 at *
      simp only [Int.natCast_one, Int.one_mul]
      omega
    · have ih := rec_len C B hC hB r (x.l + x.n) (x.p + x.n) (by omega) (by omega) (by omega) (by omega) hr
      by_cases hd : 0 ≤ x.p - phys
      · have e3 : ((enc (zig (x.p - phys + 1))).length : Int) ≤ len2 (2 * B + 3) := enc_len (by unfold zig; split <;> omega) (by omega)
        rw [rec_ge hp hd]
        simp only [List.length_append, List.length_cons, Int.natCast_add, Int.add_mul]
        generalize len2 (2 * C + 1) = q1 at *
        generalize len2 C = q2 at *
        generalize len2 (2 * B + 3) = q3 at *
        simp only [Int.natCast_one, Int.one_mul]
        omega
      · have e3 : ((enc (zig (x.p - phys))).length : Int) ≤ len2 (2 * B + 3) := enc_len (by unfold zig; split <;> omega) (by omega)
        rw [rec_lt hp hd]
        simp only [List.length_append, List.length_cons, Int.natCast_add, Int.add_mul]
        generalize len2 (2 * C + 1) = q1 at *
        generalize len2 C = q2 at *
        generalize len2 (2 * B + 3) = q3 at *
        simp only [Int.natCast_one, Int.one_mul]
        omega

/-- Runs that are in their form and end ahead of C end there one by one. -/
theorem ends_all {xs : List Op3} {C : Int} (hp : ∀ (i : Nat) (a x : Op3), xs[i]? = some a → xs[i + 1]? = some x → a.n ≤ x.l - a.l ∧ ¬ (x.l - a.l = a.n ∧ x.p - a.p = a.n)) (hn : ∀ x ∈ xs, 1 ≤ x.n)
    (he : endsB xs C = true) : ∀ (k : Nat) (i : Nat) (x : Op3), i + k + 1 = xs.length → xs[i]? = some x → x.l + x.n ≤ C
  | 0, i, x, hi, hx => by
    unfold endsB at he
    rw [List.getLast?_eq_getElem?, show xs.length - 1 = i by omega, hx] at he
    simpa using he
  | k + 1, i, x, hi, hx => by
    obtain ⟨y, hy⟩ : ∃ y, xs[i + 1]? = some y := ⟨_, List.getElem?_eq_getElem (by omega)⟩
    have h1 := ends_all hp hn he k (i + 1) y (by omega) hy
    have h2 := (hp i x y hx hy).1
    have h3 := hn y (List.mem_of_getElem? hy)
    omega

theorem pagesV_mono {a b : Int} (h0 : 0 ≤ a) (h : a ≤ b) (hb : b ≤ 65536) : pagesV a ≤ pagesV b := by
  unfold pagesV
  have hA : ¬ (a < 0 ∨ 65536 < a) := by omega
  have hB : ¬ (b < 0 ∨ 65536 < b) := by omega
  rw [if_neg hA, if_neg hB]
  split <;> split <;> omega
end Fi
end Go.Proofs.YtjmhkcfdmcjilaaGreat
