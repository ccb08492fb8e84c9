/-
  Walk: TopFits.
-/
import Derived.Test.YtjmhkcfdmcjilaaGreatFiS
import Derived.Test.YtjmhkcfdmcjilaaGreatFiO
import Derived.Test.YtjmhkcfdmcjilaaGreatFiR
set_option linter.unusedVariables false
set_option linter.unusedSimpArgs false
namespace Go.Proofs.YtjmhkcfdmcjilaaGreat
namespace Fi
open Go.RowKit Ai

/-- Eleven ints in a block of their own. -/
def IntsAt (w : World) (g : Nat) (t : Nat → Int) : Prop := w.heap[g]? = some (.cells #[.int .i64 (t 0), .int .i64 (t 1), .int .i64 (t 2), .int .i64 (t 3), .int .i64 (t 4), .int .i64 (t 5), .int .i64 (t 6), .int .i64 (t 7), .int .i64 (t 8), .int .i64 (t 9), .int .i64 (t 10)] 29 (0, 0))

theorem IntsAt.lt {w : World} {g : Nat} {t : Nat → Int} (h : IntsAt w g t) : g < w.heap.size := (Array.getElem?_eq_some_iff.1 h).1
theorem IntsAt.below {w w' : World} {g : Nat} {t : Nat → Int} (h : IntsAt w g t) (hb : Below w.heap.size w w') : IntsAt w' g t := by
  unfold IntsAt
  rw [hb.block g h.lt]
  exact h
theorem IntsAt.facts {w : World} {g : Nat} {t : Nat → Int} (h : IntsAt w g t) : w.cell? ⟨g, 1, none⟩ = some (.int .i64 (t 1)) ∧ w.cell? ⟨g, 2, none⟩ = some (.int .i64 (t 2)) ∧ w.cell? ⟨g, 4, none⟩ = some (.int .i64 (t 4)) := by
  unfold IntsAt at h
  exact ⟨by rw [cell_of_row _ _ _ _ _ _ h]; rfl, by rw [cell_of_row _ _ _ _ _ _ h]; rfl, by rw [cell_of_row _ _ _ _ _ _ h]; rfl⟩

/-- Owned runs, to be read. -/
theorem own_acts {w : World} {base : Nat} {v : Value} {xs : List Op3} (h : w.ownsRow base 94 3 v xs.length (runV xs)) (hb : ∀ x ∈ xs, inI x.l ∧ inI x.n ∧ inI x.p) : ∃ A cap, v = .slice A xs.length cap ∧ Acts3 w A xs := by
  rcases h.2 with ⟨rfl, h0⟩ | ⟨g, cap, cur, rfl, _⟩
  · have : xs = [] := List.eq_nil_of_length_eq_zero h0
    subst this
    exact ⟨none, 0, rfl, ⟨(fun x hx => by cases hx), (fun h => absurd h (Nat.lt_irrefl 0))⟩⟩
  · refine ⟨_, cap, rfl, hb, fun _ => ⟨g, 0, rfl, (h.lt g rfl).2, fun i x hx => ?_⟩⟩
    have hlt := (List.getElem?_eq_some_iff.1 hx).1
    obtain ⟨k1, k2, k3⟩ := runV_get xs i x hx
    rw [Nat.zero_add, h.cellAt (i * 3) (by omega), h.cellAt (i * 3 + 1) (by omega), h.cellAt (i * 3 + 2) (by omega)]
    exact ⟨k1, k2, k3⟩

/-- Owned bytes, not none. -/
theorem own_shape {w : World} {base n : Nat} {v : Value} {xs : List Value} (h : w.ownsRow base 5 1 v n xs) (hn : 0 < n) : ∃ g cap, v = .slice (some ⟨g, 0, none⟩) n cap := by
  rcases h.2 with ⟨rfl, h0⟩ | ⟨g, cap, cur, rfl, _⟩
  · omega
  · exact ⟨g, cap, rfl⟩

/-- Runs of a table that end ahead of the capacity and lie on the flash are told in as many pages as size says. -/
theorem snap_fits {t : List Int} (ht : okTab t) (hl : t.length = 512) {c : Cfg} (hc : c.Span) (hm : ((runsTo t t.length).length : Int) ≤ c.m) (he : endsB (runsTo t t.length) c.c = true) (hi : insideB (runsTo t t.length) (c.b * c.p) = true) :
    okRuns (runsTo t t.length) ∧ pagesV ((enc (runsTo t t.length).length ++ snapB 0 0 (runsTo t t.length)).length : Nat) ≤ snapP c := by
  have inv := runInv ht t.length (Nat.le_refl _)
  have hbp : 0 ≤ c.b * c.p ∧ c.b * c.p ≤ 2048 := by
    simp only [Cfg.Span] at hc
    exact ⟨Int.mul_nonneg (by omega) (by omega), Int.le_trans (Int.mul_le_mul (by omega : c.b ≤ 64) (by omega : c.p ≤ 32) (by omega) (by omega)) (by decide)⟩
  have hin : ∀ x ∈ runsTo t t.length, x.p ≤ c.b * c.p - x.n := fun x hx => by
    have := List.all_eq_true.1 hi x hx
    simpa using this
  have hend : ∀ x ∈ runsTo t t.length, x.l + x.n ≤ c.c := fun x hx => by
    obtain ⟨i, hlt, hxi⟩ := List.getElem_of_mem hx
    exact ends_all inv.pair (fun y hy => (inv.each y hy).2.1) he ((runsTo t t.length).length - i - 1) i x (by omega) (by rw [List.getElem?_eq_getElem hlt, hxi])
  generalize runsTo t t.length = xs at *
  have hok : okRuns xs := ⟨fun x hx => by
    have h1 := inv.each x hx
    have h2 := hin x hx
    omega, inv.pair⟩
  refine ⟨hok, ?_⟩
  simp only [Cfg.Span] at hc
  have hs := snap_len c.c (c.b * c.p) (by omega) (by omega) xs 0 0 (by omega) (by omega) (by omega) (by omega) (fun x hx => by
    have h1 := inv.each x hx
    have h2 := hin x hx
    have h3 := hend x hx
    omega)
  have hn : ((enc xs.length).length : Int) ≤ len2 c.m := enc_len hm (by omega)
  have hr1 : 3 ≤ runB c := by unfold runB; have := len2_pos c.c; have := len2_pos (2 * (c.b * c.p) + 1); omega
  have hr2 : runB c ≤ 6 := by unfold runB; have := len2_le c.c; have := len2_le (2 * (c.b * c.p) + 1); omega
  have hmul : (xs.length : Int) * runB c ≤ c.m * runB c := Int.mul_le_mul_of_nonneg_right hm (by omega)
  have hmul2 : c.m * runB c ≤ 512 * 6 := Int.mul_le_mul (by omega) (by omega) (by omega) (by omega)
  have hrb : 2 * len2 c.c + len2 (2 * (c.b * c.p) + 1) = runB c := rfl
  rw [hrb] at hs
  have hl2 := len2_le c.m
  unfold snapP
  refine pagesV_mono (by omega) ?_ (by omega)
  rw [List.length_append]
  omega

/-- Changes that are right, no more than size allows, are told in as many pages as size says. -/
theorem rec_fits {c : Cfg} (hc : c.Span) {ops : List Op3} (hn : (ops.length : Int) ≤ opsM c) (hr : ∀ x ∈ ops, rightR c.c x.l x.n = true ∧ -1 ≤ x.p ∧ x.p ≤ c.b * c.p - x.n) :
    ops.length ≤ 512 ∧ recOk ops = true ∧ pagesV ((enc ops.length ++ recB 0 0 ops).length : Nat) ≤ recP c := by
  have hbp : 0 ≤ c.b * c.p ∧ c.b * c.p ≤ 2048 := by
    simp only [Cfg.Span] at hc
    exact ⟨Int.mul_nonneg (by omega) (by omega), Int.le_trans (Int.mul_le_mul (by omega : c.b ≤ 64) (by omega : c.p ≤ 32) (by omega) (by omega)) (by decide)⟩
  simp only [Cfg.Span] at hc
  have hr' : ∀ x ∈ ops, 0 ≤ x.l ∧ 1 ≤ x.n ∧ x.l + x.n ≤ c.c ∧ -1 ≤ x.p ∧ x.p + x.n ≤ c.b * c.p := fun x hx => by
    obtain ⟨h1, h2, h3⟩ := hr x hx
    simp only [rightR, decide_eq_true_eq] at h1
    omega
  have hu : (c.c + c.p - 1) / c.p ≤ 128 := by
    have : (c.c + c.p - 1) / c.p < 129 := Int.ediv_lt_of_lt_mul (by omega) (by omega)
    omega
  have ho1 : opsM c ≤ 136 := by unfold opsM; split <;> omega
  have ho0 : 0 ≤ opsM c := by omega
  have hs := rec_len c.c (c.b * c.p) (by omega) (by omega) ops 0 0 (by omega) (by omega) (by omega) (by omega) hr'
  have hob : len2 (2 * c.c + 1) + len2 c.c + len2 (2 * (c.b * c.p) + 3) = opB c := rfl
  rw [hob] at hs
  have hb1 : 3 ≤ opB c := by unfold opB; have := len2_pos (2 * c.c + 1); have := len2_pos c.c; have := len2_pos (2 * (c.b * c.p) + 3); omega
  have hb2 : opB c ≤ 6 := by unfold opB; have := len2_le (2 * c.c + 1); have := len2_le c.c; have := len2_le (2 * (c.b * c.p) + 3); omega
  have hmul : (ops.length : Int) * opB c ≤ opsM c * opB c := Int.mul_le_mul_of_nonneg_right hn (by omega)
  have hmul2 : opsM c * opB c ≤ 136 * 6 := Int.mul_le_mul (by omega) (by omega) (by omega) (by omega)
  have hnl : ((enc ops.length).length : Int) ≤ len2 (opsM c) := enc_len hn (by omega)
  have hl2 := len2_le (opsM c)
  refine ⟨by omega, ?_, ?_⟩
  · unfold recOk
    rw [List.all_eq_true]
    intro x hx
    have := hr' x hx
    simp only [rightOp, decide_eq_true_eq]
    omega
  · unfold recP
    refine pagesV_mono (by omega) ?_ (by omega)
    rw [List.length_append]
    omega
end Fi
end Go.Proofs.YtjmhkcfdmcjilaaGreat
