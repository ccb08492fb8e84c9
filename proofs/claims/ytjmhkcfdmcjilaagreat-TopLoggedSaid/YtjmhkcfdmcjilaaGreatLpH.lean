/-
  span.trial: plain facts about its table.
-/
import Derived.Test.YtjmhkcfdmcjilaaGreatLoX
import Derived.Test.YtjmhkcfdmcjilaaGreatLpE
/- The map of runs and the table: plain. -/
/- The map of runs: the plain law of a change, second part. -/
/- The map of runs: the plain law of a change. -/
set_option linter.unusedVariables false
set_option linter.unusedSimpArgs false
namespace Go.Proofs.YtjmhkcfdmcjilaaGreat
namespace Lo
open Go.RowKit Ai Fi

/-- Runs that stand apart. -/
def Apart (a b : Op3) : Prop := a.l + a.n ≤ b.l ∧ ¬ (a.l + a.n = b.l ∧ a.p + a.n = b.p)
/-- The runs' numbers. -/
def Num (n : Int) (x : Op3) : Prop := 0 ≤ x.l ∧ 1 ≤ x.n ∧ x.l + x.n ≤ n ∧ 0 ≤ x.p ∧ x.p + x.n ≤ 1049088
/-- A list of runs as a map keeps it. -/
def Canon (n : Int) (xs : List Op3) : Prop := (∀ x ∈ xs, Num n x) ∧ xs.Pairwise Apart
/-- A run tells a sector's number. -/
def In (x : Op3) (s v : Int) : Prop := x.l ≤ s ∧ s < x.l + x.n ∧ v = x.p + (s - x.l)
def Has (xs : List Op3) (s v : Int) : Prop := ∃ x ∈ xs, In x s v

theorem has_append {xs ys : List Op3} {s v : Int} : Has (xs ++ ys) s v ↔ Has xs s v ∨ Has ys s v := by
  constructor
  · rintro ⟨x, hx, h⟩
    rcases List.mem_append.1 hx with h1 | h1
    · exact .inl ⟨x, h1, h⟩
    · exact .inr ⟨x, h1, h⟩
  · rintro (⟨x, hx, h⟩ | ⟨x, hx, h⟩)
    · exact ⟨x, List.mem_append_left _ hx, h⟩
    · exact ⟨x, List.mem_append_right _ hx, h⟩
theorem has_one {x : Op3} {s v : Int} : Has [x] s v ↔ In x s v := by simp [Has]
theorem has_nil {s v : Int} : ¬ Has [] s v := by simp [Has]
theorem has_cons {x : Op3} {xs : List Op3} {s v : Int} : Has (x :: xs) s v ↔ In x s v ∨ Has xs s v := by simp [Has]

/-- Two lists that tell the same are the same. -/
theorem canon_unique {n : Int} : ∀ {xs ys : List Op3}, Canon n xs → Canon n ys → (∀ s v, Has xs s v ↔ Has ys s v) → xs = ys
  | [], [], _, _, _ => rfl
  | [], y :: ys, _, hy, h => by
    have := hy.1 y (List.mem_cons_self ..)
    unfold Num at this
    exact absurd ((h y.l y.p).2 ⟨y, List.mem_cons_self .., by unfold In; omega⟩) has_nil
  | x :: xs, [], hx, _, h => by
    have := hx.1 x (List.mem_cons_self ..)
    unfold Num at this
    exact absurd ((h x.l x.p).1 ⟨x, List.mem_cons_self .., by unfold In; omega⟩) has_nil
  | x :: xs, y :: ys, hx, hy, h => by
    have nx := hx.1 x (List.mem_cons_self ..)
    have ny := hy.1 y (List.mem_cons_self ..)
    have px := List.pairwise_cons.1 hx.2
    have py := List.pairwise_cons.1 hy.2
    have hxs : ∀ z ∈ xs, x.l + x.n ≤ z.l ∧ ¬ (x.l + x.n = z.l ∧ x.p + x.n = z.p) := px.1
    have hys : ∀ z ∈ ys, y.l + y.n ≤ z.l ∧ ¬ (y.l + y.n = z.l ∧ y.p + y.n = z.p) := py.1
    unfold Num at nx ny
    have el : x.l = y.l := by
      have a1 : y.l ≤ x.l := by
        obtain ⟨z, hz, h1, h2, h3⟩ := (h x.l x.p).1 ⟨x, List.mem_cons_self .., by unfold In; omega⟩
        rcases List.mem_cons.1 hz with rfl | hz
        · exact h1
        · have := hys z hz; omega
      have a2 : x.l ≤ y.l := by
        obtain ⟨z, hz, h1, h2, h3⟩ := (h y.l y.p).2 ⟨y, List.mem_cons_self .., by unfold In; omega⟩
        rcases List.mem_cons.1 hz with rfl | hz
        · exact h1
        · have := hxs z hz; omega
      omega
    have ep : x.p = y.p := by
      obtain ⟨z, hz, h1, h2, h3⟩ := (h x.l x.p).1 ⟨x, List.mem_cons_self .., by unfold In; omega⟩
      rcases List.mem_cons.1 hz with rfl | hz
      · omega
      · have := hys z hz; omega
    have en : x.n = y.n := by
      have a1 : ¬ x.n < y.n := by
        intro hlt
        obtain ⟨z, hz, h1, h2, h3⟩ := (h (x.l + x.n) (x.p + x.n)).2 ⟨y, List.mem_cons_self .., by unfold In; omega⟩
        rcases List.mem_cons.1 hz with rfl | hz
        · omega
        · have := hxs z hz; omega
      have a2 : ¬ y.n < x.n := by
        intro hlt
        obtain ⟨z, hz, h1, h2, h3⟩ := (h (y.l + y.n) (y.p + y.n)).1 ⟨x, List.mem_cons_self .., by unfold In; omega⟩
        rcases List.mem_cons.1 hz with rfl | hz
        · omega
        · have := hys z hz; omega
      omega
    obtain rfl : x = y := by cases x; cases y; simp_all
    congr 1
    refine canon_unique ⟨fun z hz => hx.1 z (List.mem_cons_of_mem _ hz), px.2⟩ ⟨fun z hz => hy.1 z (List.mem_cons_of_mem _ hz), py.2⟩ fun s v => ?_
    have := h s v
    rw [has_cons, has_cons] at this
    constructor
    · intro h1
      rcases this.1 (.inr h1) with h2 | h2
      · obtain ⟨z, hz, h3, h4, h5⟩ := h1
        have := hxs z hz
        unfold In at h2
        omega
      · exact h2
    · intro h1
      rcases this.2 (.inr h1) with h2 | h2
      · obtain ⟨z, hz, h3, h4, h5⟩ := h1
        have := hys z hz
        unfold In at h2
        omega
      · exact h2

/-- A run put behind runs. -/
def push (acc : List Op3) (x : Op3) : List Op3 := match acc.getLast? with
  | none => acc ++ [x]
  | some y => if joins y x then acc.dropLast ++ [joined y x] else acc ++ [x]

theorem layL_some (acc : List Op3) (x : Op3) (r : List (Option Op3)) : layL acc (some x :: r) = layL (push acc x) r := by
  simp only [layL, push]
  cases acc.getLast? with
  | none => rfl
  | some y => by_cases h : joins y x = true <;> simp [h]

/-- What stands of runs P and behind them acc; they end by k. -/
structure Lay (n : Int) (P acc : List Op3) (k : Int) : Prop where
  num : ∀ x ∈ P ++ acc, Num n x ∧ x.l + x.n ≤ k
  apart : (P ++ acc).Pairwise Apart

theorem push_lay {n k : Int} {P acc : List Op3} {x : Op3} (h : Lay n P acc k) (hk : k ≤ x.l) (hx : Num n x) (hn : acc = [] → ∀ z ∈ P, Apart z x) :
    Lay n P (push acc x) (x.l + x.n) ∧ (∃ ys e, push acc x = ys ++ [e] ∧ e.l + e.n = x.l + x.n ∧ e.p + e.n = x.p + x.n) ∧ ∀ s v, Has (push acc x) s v ↔ Has acc s v ∨ In x s v := by
  have hxx := hx
  unfold Num at hx
  cases hl : acc.getLast? with
  | none =>
    have ha : acc = [] := List.getLast?_eq_none_iff.1 hl
    subst ha
    have e : push [] x = [x] := by simp [push]
    rw [e]
    refine ⟨⟨fun z hz => ?_, ?_⟩, ⟨[], x, rfl, rfl, rfl⟩, fun s v => by rw [has_one]; simp [has_nil]⟩
    · simp only [List.mem_append, List.mem_singleton] at hz
      rcases hz with hz | rfl
      · have := h.num z (by simp [hz]); exact ⟨this.1, by omega⟩
      · exact ⟨hxx, Int.le_refl _⟩
    · have hp := h.apart
      rw [List.append_nil] at hp
      rw [List.pairwise_append]
      exact ⟨hp, List.pairwise_singleton .., fun z hz y hy => by simp only [List.mem_singleton] at hy; subst hy; exact hn rfl z hz⟩
  | some y =>
    obtain ⟨ys, rfl⟩ := List.getLast?_eq_some_iff.1 hl
    have hp := h.apart
    rw [← List.append_assoc, List.pairwise_append] at hp
    have hy := h.num y (by simp)
    have hyn := hy.1
    unfold Num at hyn
    by_cases hj : joins y x = true
    · have e : push (ys ++ [y]) x = ys ++ [⟨y.l, y.n + x.n, y.p⟩] := by
        simp only [push, List.getLast?_concat, hj, if_true, List.dropLast_concat, joined]
      have hj2 : y.l + y.n = x.l ∧ y.p + y.n = x.p := by simpa [joins] using hj
      rw [e]
      refine ⟨⟨fun z hz => ?_, ?_⟩, ⟨ys, _, rfl, by simp only; omega, by simp only; omega⟩, fun s v => ?_⟩
      · simp only [List.mem_append, List.mem_singleton] at hz
        rcases hz with hz | hz | rfl
        · have := h.num z (by simp [hz]); exact ⟨this.1, by omega⟩
        · have := h.num z (by simp [hz]); exact ⟨this.1, by omega⟩
        · refine ⟨?_, by simp only; omega⟩
          unfold Num
          simp only
          omega
      · rw [← List.append_assoc, List.pairwise_append]
        refine ⟨hp.1, List.pairwise_singleton .., fun z hz w hw => ?_⟩
        simp only [List.mem_singleton] at hw
        subst hw
        have := hp.2.2 z hz y (by simp)
        unfold Apart at this ⊢
        exact this
      · rw [has_append, has_append, has_one, has_one]
        unfold In
        simp only
        constructor
        · rintro (h1 | h1)
          · exact .inl (.inl h1)
          · by_cases h2 : s < y.l + y.n
            · exact .inl (.inr (by omega))
            · exact .inr (by omega)
        · rintro ((h1 | h1) | h1)
          · exact .inl h1
          · exact .inr (by omega)
          · exact .inr (by omega)
    · have e : push (ys ++ [y]) x = (ys ++ [y]) ++ [x] := by
        simp only [push, List.getLast?_concat, hj]
        rfl
      rw [e]
      refine ⟨⟨fun z hz => ?_, ?_⟩, ⟨_, x, rfl, rfl, rfl⟩, fun s v => by rw [has_append, has_one]⟩
      · rw [← List.append_assoc, List.mem_append, List.mem_singleton] at hz
        rcases hz with hz | rfl
        · have := h.num z hz; exact ⟨this.1, by omega⟩
        · exact ⟨hxx, Int.le_refl _⟩
      · rw [← List.append_assoc, List.pairwise_append]
        refine ⟨h.apart, List.pairwise_singleton .., fun z hz w hw => ?_⟩
        simp only [List.mem_singleton] at hw
        subst hw
        rw [← List.append_assoc, List.mem_append] at hz
        have hj2 : ¬ (y.l + y.n = w.l ∧ y.p + y.n = w.p) := by simpa [joins] using hj
        rcases hz with hz | hz
        · have h1 := hp.2.2 z hz y (by simp)
          unfold Apart at h1 ⊢
          omega
        · simp only [List.mem_singleton] at hz
          subst hz
          unfold Apart
          omega

theorem lay_end {n : Int} {P ys Q : List Op3} {e : Op3} {k : Int} (h : Lay n P (ys ++ [e]) k) (hQ : ∀ q ∈ Q, Num n q ∧ Apart e q) (hq : Q.Pairwise Apart) : Canon n (P ++ (ys ++ [e]) ++ Q) := by
  have hp := h.apart
  refine ⟨fun x hx => ?_, ?_⟩
  · rcases List.mem_append.1 hx with h1 | h1
    · exact (h.num x h1).1
    · exact (hQ x h1).1
  · rw [List.pairwise_append]
    refine ⟨hp, hq, fun a ha q hqm => ?_⟩
    have h1 := (hQ q hqm).2
    rw [← List.append_assoc, List.mem_append, List.mem_singleton] at ha
    rcases ha with ha | rfl
    · rw [← List.append_assoc, List.pairwise_append] at hp
      have h2 := hp.2.2 a ha e (by simp)
      have h3 := (h.num e (by simp)).1
      unfold Apart at *
      unfold Num at h3
      omega
    · exact h1
end Lo
end Go.Proofs.YtjmhkcfdmcjilaaGreat
set_option linter.unusedVariables false
set_option linter.unusedSimpArgs false
namespace Go.Proofs.YtjmhkcfdmcjilaaGreat
namespace Lo
open Go.RowKit Ai Fi

theorem sorted_split : ∀ {xs : List Id3} (k : Int), Sorted xs → xs = xs.filter (fun x => decide (x.b ≤ k)) ++ xs.filter (fun x => decide (k < x.b))
  | [], _, _ => rfl
  | x :: r, k, h => by
    have hp := List.pairwise_cons.1 h
    have ih := sorted_split (xs := r) k hp.2
    by_cases h1 : x.b ≤ k
    · rw [List.filter_cons_of_pos (by simpa using h1), List.filter_cons_of_neg (by simp; omega), List.cons_append]
      rw [← ih]
    · have e : (x :: r).filter (fun x => decide (x.b ≤ k)) = [] := by
        apply List.filter_eq_nil_iff.2
        intro y hy
        rcases List.mem_cons.1 hy with rfl | hy
        · simpa using h1
        · have := hp.1 y hy; simp; omega
      have e2 : (x :: r).filter (fun x => decide (k < x.b)) = x :: r := by
        apply List.filter_eq_self.2
        intro y hy
        rcases List.mem_cons.1 hy with rfl | hy
        · simp; omega
        · have := hp.1 y hy; simp; omega
      rw [e, e2]; rfl

theorem canon_sorted {n : Int} {xs : List Id3} (h : Canon n (xs.map op3)) : Sorted xs := by
  have h2 := List.pairwise_map.1 h.2
  refine List.Pairwise.imp_of_mem ?_ h2
  intro a b ha hb hab
  have := h.1 (op3 a) (List.mem_map_of_mem ha)
  unfold Num op3 at this
  unfold Apart op3 at hab
  simp only at this hab
  omega

theorem canon_pair {n : Int} {xs : List Id3} (h : Canon n (xs.map op3)) : xs.Pairwise fun a b => Apart (op3 a) (op3 b) := List.pairwise_map.1 h.2

/-- The runs ahead of what is cut. -/
def cutPre (xs : List Id3) (lba : Int) : List Id3 := match touch xs lba with
  | none => xs.filter (fun x => decide (x.b ≤ lba - 1))
  | some _ => (xs.filter (fun x => decide (x.b ≤ lba - 1))).dropLast
/-- The runs behind it. -/
def cutPost (xs : List Id3) (hi : Int) : List Id3 := xs.filter (fun x => decide (hi < x.b))

theorem touch_some {xs : List Id3} {lba : Int} {r : Id3} (h : touch xs lba = some r) : floorL xs (lba - 1) = some r ∧ lba ≤ r.b + r.n := by
  unfold touch at h
  cases hf : floorL xs (lba - 1) with
  | none => rw [hf] at h; cases h
  | some y =>
    rw [hf] at h
    simp only at h
    split at h
    · cases h; exact ⟨rfl, by assumption⟩
    · cases h

theorem cut_split {n : Int} {xs : List Id3} (h : Canon n (xs.map op3)) (lba len : Int) (hl : 0 ≤ len) :
    xs = cutPre xs lba ++ cutOld xs lba len ++ cutPost xs (lba + len) ∧ (∀ x ∈ cutPre xs lba, x.b + x.n < lba) ∧ (∀ x ∈ cutPost xs (lba + len), lba + len < x.b) ∧
      (∀ x ∈ cutOld xs lba len, lba ≤ x.b + x.n ∧ x.b ≤ lba + len) ∧ (∀ x ∈ cutOld xs lba len, x.b < lba → touch xs lba = some x) ∧ (∀ r, touch xs lba = some r → r ∈ cutOld xs lba len ∧ r.b < lba ∧ lba ≤ r.b + r.n) := by
  have hs := canon_sorted h
  have hp := canon_pair h
  obtain ⟨L, hL⟩ : ∃ L, L = xs.filter (fun x => decide (x.b ≤ lba - 1)) := ⟨_, rfl⟩
  have hnum : ∀ x ∈ xs, 1 ≤ x.n := fun x hx => by
    have := h.1 (op3 x) (List.mem_map_of_mem hx)
    unfold Num op3 at this
    simp only at this
    omega
  have e1 : xs.filter (fun x => decide (lba - 1 < x.b)) = remL xs lba (lba + len) ++ cutPost xs (lba + len) := by
    have := sorted_split (xs := xs.filter (fun x => decide (lba - 1 < x.b))) (lba + len) (List.Pairwise.filter _ hs)
    rw [this, List.filter_filter, List.filter_filter]
    unfold remL cutPost
    congr 1
    · apply List.filter_congr
      intro x _
      by_cases h1 : lba ≤ x.b
      · have h2 : lba - 1 < x.b := by omega
        simp [h1, h2]
      · have h2 : ¬ lba - 1 < x.b := by omega
        simp [h1, h2]
    · apply List.filter_congr
      intro x _
      by_cases h1 : lba + len < x.b
      · have h2 : lba - 1 < x.b := by omega
        simp [h1, h2]
      · simp [h1]
  have e0 : xs = L ++ (remL xs lba (lba + len) ++ cutPost xs (lba + len)) := by
    rw [← e1, hL]
    exact sorted_split (lba - 1) hs
  have hLm : ∀ x ∈ L, x ∈ xs ∧ x.b ≤ lba - 1 := fun x hx => by
    rw [hL] at hx
    have := List.mem_filter.1 hx
    exact ⟨this.1, by simpa using this.2⟩
  have hLp : L.Pairwise fun a b => Apart (op3 a) (op3 b) := by rw [hL]; exact List.Pairwise.filter _ hp
  have hrem : ∀ x ∈ remL xs lba (lba + len), x ∈ xs ∧ lba ≤ x.b ∧ x.b ≤ lba + len := fun x hx => by
    have := List.mem_filter.1 hx
    exact ⟨this.1, by simpa using this.2⟩
  have hPQ : L = cutPre xs lba ++ cutP xs lba ∧ ∀ x ∈ cutPre xs lba, x.b + x.n < lba := by
    unfold cutPre cutP
    cases ht : touch xs lba with
    | some r =>
      obtain ⟨h1, h2⟩ := touch_some ht
      unfold floorL at h1
      rw [← hL] at h1 ⊢
      obtain ⟨ys, e⟩ := List.getLast?_eq_some_iff.1 h1
      have e2 : L.dropLast = ys := by rw [e]; simp
      simp only
      rw [e2]
      refine ⟨e, fun x hx => ?_⟩
      rw [e, List.pairwise_append] at hLp
      have h3 := hLp.2.2 x hx r (by simp)
      have h4 := (hLm r (by rw [e]; simp)).2
      unfold Apart op3 at h3
      simp only at h3
      omega
    | none =>
      simp only
      rw [← hL, List.append_nil]
      refine ⟨rfl, fun x hx => ?_⟩
      unfold touch floorL at ht
      rw [← hL] at ht
      cases hg : L.getLast? with
      | none => rw [List.getLast?_eq_none_iff.1 hg] at hx; cases hx
      | some r =>
        rw [hg] at ht
        simp only at ht
        have hr : ¬ lba ≤ r.b + r.n := fun hh => by rw [if_pos hh] at ht; cases ht
        obtain ⟨ys, e⟩ := List.getLast?_eq_some_iff.1 hg
        rw [e] at hx
        simp only [List.mem_append, List.mem_singleton] at hx
        rcases hx with hx | rfl
        · rw [e, List.pairwise_append] at hLp
          have h3 := hLp.2.2 x hx r (by simp)
          have h4 := hnum r (hLm r (by rw [e]; simp)).1
          unfold Apart op3 at h3
          simp only at h3
          omega
        · omega
  refine ⟨?_, hPQ.2, fun x hx => ?_, fun x hx => ?_, fun x hx hb => ?_, fun r hr => ?_⟩
  · unfold cutOld
    rw [← List.append_assoc, ← hPQ.1, List.append_assoc]
    exact e0
  · have := List.mem_filter.1 hx
    simpa using this.2
  · rcases List.mem_append.1 hx with h1 | h1
    · unfold cutP at h1
      cases ht : touch xs lba with
      | none => rw [ht] at h1; cases h1
      | some r =>
        rw [ht] at h1
        simp only [List.mem_singleton] at h1
        subst h1
        have h2 := touch_some ht
        have h3 := floorL_mem h2.1
        omega
    · have h2 := hrem x h1
      have h3 := hnum x h2.1
      omega
  · rcases List.mem_append.1 hx with h1 | h1
    · unfold cutP at h1
      cases ht : touch xs lba with
      | none => rw [ht] at h1; cases h1
      | some r =>
        rw [ht] at h1
        simp only [List.mem_singleton] at h1
        subst h1
        rfl
    · have h2 := hrem x h1
      omega
  · have h2 := touch_some hr
    have h3 := floorL_mem h2.1
    exact ⟨List.mem_append_left _ (by unfold cutP; rw [hr]; simp), by omega, h2.2⟩

def tailAt (x : Id3) (hi : Int) : Op3 := ⟨hi, x.b + x.n - hi, x.p + (hi - x.b)⟩

theorem op3_ext {a b : Op3} (h1 : a.l = b.l) (h2 : a.n = b.n) (h3 : a.p = b.p) : a = b := by cases a; cases b; simp_all

theorem foldB (hi : Int) : ∀ (R : List Id3) (acc : Option Op3), (∀ r ∈ R, r.b ≤ hi) → (∃ r ∈ R, hi < r.b + r.n ∧ R.foldl (stepB hi) acc = some (tailAt r hi)) ∨ (R.foldl (stepB hi) acc = acc ∧ ∀ r ∈ R, ¬ hi < r.b + r.n)
  | [], acc, _ => .inr ⟨rfl, by simp⟩
  | x :: R, acc, h => by
    have hx := h x (List.mem_cons_self ..)
    rcases foldB hi R (stepB hi acc x) (fun r hr => h r (List.mem_cons_of_mem _ hr)) with ⟨r, hr, h1, h2⟩ | ⟨h1, h2⟩
    · exact .inl ⟨r, List.mem_cons_of_mem _ hr, h1, h2⟩
    · have hm : max 0 (hi - x.b) = hi - x.b := by omega
      by_cases h3 : hi < x.b + x.n
      · refine .inl ⟨x, List.mem_cons_self .., h3, ?_⟩
        rw [List.foldl_cons, h1]
        have h4 : hi - x.b < x.n := by omega
        simp only [stepB, hm, h4, if_true, tailAt]
        exact congrArg some (op3_ext (by simp only; omega) (by simp only; omega) rfl)
      · refine .inr ⟨?_, fun r hr => ?_⟩
        · rw [List.foldl_cons, h1, stepB, hm, if_neg (by omega)]
        · rcases List.mem_cons.1 hr with rfl | hr
          · exact h3
          · exact h2 r hr

theorem cutB_spec {n : Int} {xs : List Id3} (h : Canon n (xs.map op3)) (lba len : Int) (hl : 0 ≤ len) :
    (∃ x ∈ cutOld xs lba len, lba + len < x.b + x.n ∧ cutB xs lba len = some (tailAt x (lba + len))) ∨ (cutB xs lba len = none ∧ ∀ x ∈ cutOld xs lba len, ¬ lba + len < x.b + x.n) := by
  obtain ⟨-, -, -, hO, hT, hT2⟩ := cut_split h lba len hl
  have hR : ∀ r ∈ remL xs lba (lba + len), r.b ≤ lba + len := fun r hr => (hO r (List.mem_append_right _ hr)).2
  unfold cutB
  rcases foldB (lba + len) (remL xs lba (lba + len)) (cutB0 xs lba len) hR with ⟨r, hr, h1, h2⟩ | ⟨h1, h2⟩
  · exact .inl ⟨r, List.mem_append_right _ hr, h1, h2⟩
  · rw [h1]
    cases ht : touch xs lba with
    | none =>
      refine .inr ⟨by unfold cutB0; rw [ht], fun x hx => ?_⟩
      rcases List.mem_append.1 hx with h3 | h3
      · unfold cutP at h3; rw [ht] at h3; cases h3
      · exact h2 x h3
    | some r =>
      have h4 := hT2 r ht
      by_cases h5 : lba + len < r.b + r.n
      · refine .inl ⟨r, h4.1, h5, ?_⟩
        unfold cutB0 tailAt
        rw [ht]
        simp only
        rw [if_pos h5]
        exact congrArg some (op3_ext rfl (by simp only; omega) (by simp only; omega))
      · refine .inr ⟨?_, fun x hx => ?_⟩
        · unfold cutB0
          rw [ht]
          simp only
          rw [if_neg h5]
        · rcases List.mem_append.1 hx with h3 | h3
          · unfold cutP at h3
            rw [ht] at h3
            simp only [List.mem_singleton] at h3
            subst h3
            exact h5
          · exact h2 x h3

/-- One sector lies in one run. -/
theorem canon_in {n : Int} {xs : List Id3} (h : Canon n (xs.map op3)) {x y : Id3} (hx : x ∈ xs) (hy : y ∈ xs) {s : Int} (h1 : x.b ≤ s ∧ s < x.b + x.n) (h2 : y.b ≤ s ∧ s < y.b + y.n) : x = y := by
  have hp := canon_pair h
  obtain ⟨i, hi, rfl⟩ := List.getElem_of_mem hx
  obtain ⟨j, hj, rfl⟩ := List.getElem_of_mem hy
  rcases Nat.lt_trichotomy i j with h3 | h3 | h3
  · have := List.pairwise_iff_getElem.1 hp i j hi hj h3
    unfold Apart op3 at this
    simp only at this
    omega
  · subst h3; rfl
  · have := List.pairwise_iff_getElem.1 hp j i hj hi h3
    unfold Apart op3 at this
    simp only at this
    omega
end Lo
end Go.Proofs.YtjmhkcfdmcjilaaGreat
/- The map of runs: the plain law of a change, third part. -/
set_option linter.unusedVariables false
set_option linter.unusedSimpArgs false
namespace Go.Proofs.YtjmhkcfdmcjilaaGreat
namespace Lo
open Go.RowKit Ai Fi

/-- The runs after a change of a range. -/
def changed (xs : List Id3) (lba len : Int) (mid : Option Op3) : List Op3 := (cutPre xs lba).map op3 ++ layL [] [cutA xs lba, mid, cutB xs lba len] ++ (cutPost xs (lba + len)).map op3

theorem has_map {xs : List Id3} {s v : Int} : Has (xs.map op3) s v ↔ ∃ x ∈ xs, x.b ≤ s ∧ s < x.b + x.n ∧ v = x.p + (s - x.b) := by
  unfold Has In op3
  constructor
  · rintro ⟨x, hx, h⟩
    obtain ⟨y, hy, rfl⟩ := List.mem_map.1 hx
    exact ⟨y, hy, h⟩
  · rintro ⟨y, hy, h⟩
    exact ⟨_, List.mem_map_of_mem hy, h⟩

set_option maxHeartbeats 2000000 in
theorem change_law {n : Int} {xs : List Id3} (h : Canon n (xs.map op3)) (lba len : Int) (hr : 0 ≤ lba ∧ 1 ≤ len ∧ lba + len ≤ n) (mid : Option Op3) (hmid : ∀ m, mid = some m → m.l = lba ∧ m.n = len ∧ Num n m) :
    Canon n (changed xs lba len mid) ∧ ∀ s v, Has (changed xs lba len mid) s v ↔ (lba ≤ s ∧ s < lba + len ∧ ∃ m, mid = some m ∧ In m s v) ∨ (¬ (lba ≤ s ∧ s < lba + len) ∧ Has (xs.map op3) s v) := by
  obtain ⟨hx, hP, hQ, hO, hT, hT2⟩ := cut_split h lba len (by omega)
  have hB := cutB_spec h lba len (by omega)
  have hin := fun x y hx hy s => @canon_in n xs h x y hx hy s
  have hpair := canon_pair h
  unfold changed
  obtain ⟨P, eP⟩ : ∃ P, P = cutPre xs lba := ⟨_, rfl⟩
  obtain ⟨O, eO⟩ : ∃ O, O = cutOld xs lba len := ⟨_, rfl⟩
  obtain ⟨Q, eQ⟩ : ∃ Q, Q = cutPost xs (lba + len) := ⟨_, rfl⟩
  obtain ⟨A, eA⟩ : ∃ A, A = cutA xs lba := ⟨_, rfl⟩
  obtain ⟨B, eB⟩ : ∃ B, B = cutB xs lba len := ⟨_, rfl⟩
  rw [← eP, ← eO, ← eQ] at hx
  rw [← eP] at hP ⊢
  rw [← eQ] at hQ ⊢
  rw [← eO] at hO hT hT2 hB
  rw [← eB] at hB ⊢
  rw [← eA] at ⊢
  have hnum : ∀ x ∈ xs, 0 ≤ x.b ∧ 1 ≤ x.n ∧ x.b + x.n ≤ n ∧ 0 ≤ x.p ∧ x.p + x.n ≤ 1049088 := fun x hx => by
    have := h.1 (op3 x) (List.mem_map_of_mem hx)
    unfold Num op3 at this
    exact this
  have mP : ∀ x ∈ P, x ∈ xs := fun x hm => by rw [hx]; simp [hm]
  have mO : ∀ x ∈ O, x ∈ xs := fun x hm => by rw [hx]; simp [hm]
  have mQ : ∀ x ∈ Q, x ∈ xs := fun x hm => by rw [hx]; simp [hm]
  have pw := hpair
  rw [hx, List.pairwise_append, List.pairwise_append] at pw
  obtain ⟨⟨pwP, pwO, pwPO⟩, pwQ, pwPOQ⟩ := pw
  have pwP' : (P.map op3).Pairwise Apart := List.pairwise_map.2 pwP
  have pwQ' : (Q.map op3).Pairwise Apart := List.pairwise_map.2 pwQ
  have numP : ∀ z ∈ P.map op3, Num n z ∧ z.l + z.n < lba := fun z hz => by
    obtain ⟨y, hy, rfl⟩ := List.mem_map.1 hz
    exact ⟨hnum y (mP y hy), hP y hy⟩
  have numQ : ∀ z ∈ Q.map op3, Num n z ∧ lba + len < z.l := fun z hz => by
    obtain ⟨y, hy, rfl⟩ := List.mem_map.1 hz
    exact ⟨hnum y (mQ y hy), hQ y hy⟩
  have sA : ∃ acc, layL [] [A, mid, B] = layL acc [mid, B] ∧ Lay n (P.map op3) acc lba ∧ (∀ ys e, acc = ys ++ [e] → e.l + e.n = lba) ∧ ∀ s v, Has acc s v ↔ s < lba ∧ Has (O.map op3) s v := by
    cases ht : touch xs lba with
    | none =>
      have : A = none := by rw [eA]; unfold cutA; rw [ht]
      rw [this]
      refine ⟨[], rfl, ⟨fun x hx => ?_, by rw [List.append_nil]; exact pwP'⟩, fun ys e hh => by simp at hh, fun s v => ?_⟩
      · rw [List.append_nil] at hx
        have := numP x hx
        exact ⟨this.1, by omega⟩
      · rw [has_map]
        constructor
        · intro hh; exact absurd hh has_nil
        · rintro ⟨h1, x, hx, h2, h3, h4⟩
          have := hT x hx (by omega)
          rw [ht] at this
          cases this
    | some r =>
      have : A = some ⟨r.b, lba - r.b, r.p⟩ := by rw [eA]; unfold cutA; rw [ht]
      rw [this, layL_some]
      have h2 := hT2 r ht
      have nr := hnum r (mO r h2.1)
      obtain ⟨l1, ⟨ys, e, l2, l3, l4⟩, l5⟩ := push_lay (n := n) (k := r.b) (P := P.map op3) (acc := []) (x := ⟨r.b, lba - r.b, r.p⟩) ⟨fun x hx => by
          rw [List.append_nil] at hx
          obtain ⟨y, hy, rfl⟩ := List.mem_map.1 hx
          have := pwPO y hy r h2.1
          unfold Apart at this
          exact ⟨(numP _ hx).1, this.1⟩, by rw [List.append_nil]; exact pwP'⟩ (Int.le_refl _) (by unfold Num; simp only; omega) (fun _ z hz => by
          obtain ⟨y, hy, rfl⟩ := List.mem_map.1 hz
          have := pwPO y hy r h2.1
          unfold Apart op3 at this ⊢
          exact this)
      simp only at l1 l3 l4
      refine ⟨_, rfl, by rw [show r.b + (lba - r.b) = lba by omega] at l1; exact l1, fun zs f hh => ?_, fun s v => ?_⟩
      · rw [l2] at hh
        have := List.append_inj_right' hh rfl
        simp only [List.cons.injEq, and_true] at this
        rw [← this]
        omega
      · rw [l5, has_map]
        unfold In
        simp only
        constructor
        · rintro (hh | hh)
          · exact absurd hh has_nil
          · exact ⟨by omega, r, h2.1, by omega, by omega, hh.2.2⟩
        · rintro ⟨h3, x, hx, h4, h5, h6⟩
          have := hT x hx (by omega)
          rw [ht] at this
          cases this
          exact .inr (by omega)
  obtain ⟨acc, e1, L1, b1, h1⟩ := sA
  rw [e1]
  have sM : ∃ acc2, layL acc [mid, B] = layL acc2 [B] ∧ Lay n (P.map op3) acc2 (lba + len) ∧ (∀ ys e, acc2 = ys ++ [e] → e.l + e.n ≤ lba + len) ∧ ∀ s v, Has acc2 s v ↔ (s < lba ∧ Has (O.map op3) s v) ∨ (lba ≤ s ∧ s < lba + len ∧ ∃ m, mid = some m ∧ In m s v) := by
    cases mid with
    | none =>
      refine ⟨acc, rfl, ⟨fun x hx => ?_, L1.apart⟩, fun ys e hh => ?_, fun s v => ?_⟩
      · have := L1.num x hx; exact ⟨this.1, by omega⟩
      · have := b1 ys e hh; omega
      · rw [h1]; simp
    | some m =>
      obtain ⟨m1, m2, m3⟩ := hmid m rfl
      obtain ⟨l1, ⟨ys, e, l2, l3, l4⟩, l5⟩ := push_lay (x := m) L1 (by omega) m3 (fun _ z hz => by
          have := (numP z hz).2
          unfold Apart
          omega)
      rw [layL_some]
      refine ⟨_, rfl, by rw [m1, m2] at l1; exact l1, fun zs f hh => ?_, fun s v => ?_⟩
      · rw [l2] at hh
        have := List.append_inj_right' hh rfl
        simp only [List.cons.injEq, and_true] at this
        rw [← this]
        omega
      · rw [l5, h1]
        constructor
        · rintro (hh | hh)
          · exact .inl hh
          · refine .inr ⟨?_, ?_, m, rfl, hh⟩
            · unfold In at hh; omega
            · unfold In at hh; omega
        · rintro (hh | ⟨-, -, m', e', hh⟩)
          · exact .inl hh
          · cases e'; exact .inr hh
  obtain ⟨acc2, e2, L2, b2, h2⟩ := sM
  rw [e2]
  have sB : ∃ acc3 k, layL acc2 [B] = acc3 ∧ Lay n (P.map op3) acc3 k ∧ (∀ ys e, acc3 = ys ++ [e] → ∀ q ∈ Q.map op3, Apart e q) ∧ ∀ s v, Has acc3 s v ↔ (s < lba ∧ Has (O.map op3) s v) ∨ (lba ≤ s ∧ s < lba + len ∧ ∃ m, mid = some m ∧ In m s v) ∨ (lba + len ≤ s ∧ Has (O.map op3) s v) := by
    rcases hB with ⟨x, hxm, hx1, hx2⟩ | ⟨hx1, hx2⟩
    · rw [hx2, layL_some]
      have nx := hnum x (mO x hxm)
      have ox := hO x hxm
      obtain ⟨l1, ⟨ys, e, l2, l3, l4⟩, l5⟩ := push_lay (x := tailAt x (lba + len)) L2 (by unfold tailAt; simp only; omega) (by unfold Num tailAt; simp only; omega) (fun _ z hz => by
          have := (numP z hz).2
          unfold Apart tailAt
          simp only
          omega)
      refine ⟨_, _, rfl, l1, fun zs f hh q hq => ?_, fun s v => ?_⟩
      · rw [l2] at hh
        have := List.append_inj_right' hh rfl
        simp only [List.cons.injEq, and_true] at this
        rw [← this]
        obtain ⟨y, hy, rfl⟩ := List.mem_map.1 hq
        have := pwPOQ x (List.mem_append_right _ hxm) y hy
        unfold tailAt at l3 l4
        unfold Apart op3 at this ⊢
        simp only at this l3 l4 ⊢
        omega
      · show Has (push acc2 (tailAt x (lba + len))) s v ↔ _
        rw [l5, h2]
        have key : In (tailAt x (lba + len)) s v ↔ (lba + len ≤ s ∧ Has (O.map op3) s v) := by
          rw [has_map]
          unfold In tailAt
          simp only
          constructor
          · rintro ⟨c1, c2, c3⟩
            exact ⟨c1, x, hxm, by omega, by omega, by omega⟩
          · rintro ⟨c1, y, hy, c2, c3, c4⟩
            have oy := hO y hy
            have := hin x y (mO x hxm) (mO y hy) (lba + len) ⟨by omega, by omega⟩ ⟨by omega, by omega⟩
            subst this
            omega
        rw [key]
        constructor
        · rintro ((a | a) | a)
          · exact .inl a
          · exact .inr (.inl a)
          · exact .inr (.inr a)
        · rintro (a | a | a)
          · exact .inl (.inl a)
          · exact .inl (.inr a)
          · exact .inr a
    · rw [hx1]
      refine ⟨acc2, lba + len, rfl, L2, fun ys e hh q hq => ?_, fun s v => ?_⟩
      · have := b2 ys e hh
        have := (numQ q hq).2
        unfold Apart
        omega
      · rw [h2]
        constructor
        · rintro (a | a)
          · exact .inl a
          · exact .inr (.inl a)
        · rintro (a | a | ⟨a, b⟩)
          · exact .inl a
          · exact .inr a
          · rw [has_map] at b
            obtain ⟨y, hy, c2, c3, c4⟩ := b
            have := hx2 y hy
            have := hO y hy
            omega
  obtain ⟨acc3, k, e3, L3, b3, h3⟩ := sB
  rw [e3]
  refine ⟨?_, fun s v => ?_⟩
  · by_cases hnil : acc3 = []
    · rw [hnil, List.append_nil]
      refine ⟨fun z hz => ?_, ?_⟩
      · rcases List.mem_append.1 hz with a | a
        · exact (numP z a).1
        · exact (numQ z a).1
      · rw [List.pairwise_append]
        refine ⟨pwP', pwQ', fun a ha b hb => ?_⟩
        have := (numP a ha).2
        have := (numQ b hb).2
        unfold Apart
        omega
    · have e4 := (List.dropLast_concat_getLast hnil).symm
      rw [e4] at L3 ⊢
      exact lay_end L3 (fun q hq => ⟨(numQ q hq).1, b3 _ _ e4 q hq⟩) pwQ'
  · rw [has_append, has_append, h3]
    have ex : Has (xs.map op3) s v ↔ Has (P.map op3) s v ∨ Has (O.map op3) s v ∨ Has (Q.map op3) s v := by
      conv => lhs; rw [hx]
      rw [List.map_append, List.map_append, has_append, has_append, or_assoc]
    have eP : Has (P.map op3) s v → s < lba := by
      rintro ⟨z, hz, a⟩
      have := (numP z hz).2
      unfold In at a
      omega
    have eQ : Has (Q.map op3) s v → lba + len < s := by
      rintro ⟨z, hz, a⟩
      have := (numQ z hz).2
      unfold In at a
      omega
    rw [ex]
    constructor
    · rintro ((a | ⟨a, b⟩ | a | ⟨a, b⟩) | a)
      · exact .inr ⟨by have := eP a; omega, .inl a⟩
      · exact .inr ⟨by omega, .inr (.inl b)⟩
      · exact .inl a
      · exact .inr ⟨by omega, .inr (.inl b)⟩
      · exact .inr ⟨by have := eQ a; omega, .inr (.inr a)⟩
    · rintro (a | ⟨a, b | b | b⟩)
      · exact .inl (.inr (.inr (.inl a)))
      · exact .inl (.inl b)
      · by_cases c : s < lba
        · exact .inl (.inr (.inl ⟨c, b⟩))
        · exact .inl (.inr (.inr (.inr ⟨by omega, b⟩)))
      · exact .inr b

theorem canon_len {n : Int} : ∀ {xs : List Op3} {k : Int}, Canon n xs → (∀ x ∈ xs, k ≤ x.l) → k ≤ n → (xs.length : Int) ≤ n - k
  | [], k, _, _, h => by simp; omega
  | x :: r, k, h, hk, _ => by
    have hx := h.1 x (List.mem_cons_self ..)
    have h1 := hk x (List.mem_cons_self ..)
    have hp := List.pairwise_cons.1 h.2
    unfold Num at hx
    have := canon_len (xs := r) (k := x.l + x.n) ⟨fun z hz => h.1 z (List.mem_cons_of_mem _ hz), hp.2⟩ (fun z hz => (hp.1 z hz).1) (by omega)
    simp only [List.length_cons]
    omega

theorem canon_length {n : Int} {xs : List Op3} (h : Canon n xs) (hn : 0 ≤ n) : (xs.length : Int) ≤ n := by
  have := canon_len (k := 0) h (fun x hx => (h.1 x hx).1) hn
  omega

theorem canon_lt {n : Int} {xs : List Op3} (h : Canon n xs) : xs.Pairwise fun x y => x.l < y.l := by
  refine List.Pairwise.imp_of_mem ?_ h.2
  intro a b ha hb hab
  have := h.1 a ha
  unfold Num at this
  unfold Apart at hab
  omega
end Lo
end Go.Proofs.YtjmhkcfdmcjilaaGreat
set_option linter.unusedVariables false
set_option linter.unusedSimpArgs false
namespace Go.Proofs.YtjmhkcfdmcjilaaGreat
namespace Lo
open Go.RowKit Ai Fi

/-- The numbers of a table as the changes leave them. -/
def okT (t : List Int) : Prop := ∀ x ∈ t, -1 ≤ x ∧ x ≤ 1049087
theorem okT.ok {t : List Int} (h : okT t) : okTab t := fun x hx => by have := h x hx; omega

def Tells (t : List Int) (k : Nat) (s v : Int) : Prop := ∃ j : Nat, s = j ∧ j < k ∧ t[j]? = some v ∧ 0 ≤ v

theorem runsTo_has {t : List Int} (ht : okTab t) : ∀ k, k ≤ t.length → ∀ s v, Has (runsTo t k) s v ↔ Tells t k s v
  | 0, _, s, v => by
    constructor
    · intro h; exact absurd h has_nil
    · rintro ⟨j, _, h, _⟩; omega
  | k + 1, hk, s, v => by
    have ih := runsTo_has ht k (by omega) s v
    have inv := runInv ht k (by omega)
    obtain ⟨p, hp⟩ : ∃ p, t[k]? = some p := ⟨_, List.getElem?_eq_getElem (by omega)⟩
    have hstep : Tells t (k + 1) s v ↔ Tells t k s v ∨ (s = k ∧ v = p ∧ 0 ≤ p) := by
      constructor
      · rintro ⟨j, h1, h2, h3, h4⟩
        by_cases h5 : j < k
        · exact .inl ⟨j, h1, h5, h3, h4⟩
        · obtain rfl : j = k := by omega
          rw [hp] at h3
          cases h3
          exact .inr ⟨h1, rfl, h4⟩
      · rintro (⟨j, h1, h2, h3, h4⟩ | ⟨h1, h2, h3⟩)
        · exact ⟨j, h1, by omega, h3, h4⟩
        · exact ⟨k, h1, by omega, by rw [hp, h2], by omega⟩
    rw [hstep]
    by_cases h1 : p < 0
    · rw [runs_step1 hp h1, ih]
      constructor
      · exact .inl
      · rintro (a | a)
        · exact a
        · omega
    · cases hg : goes t k with
      | true =>
        rw [runs_step2 hp h1 hg]
        cases k with
        | zero => simp [goes] at hg
        | succ j =>
          obtain ⟨y, hy⟩ : ∃ y, t[j]? = some y := ⟨_, List.getElem?_eq_getElem (by omega)⟩
          rw [goes_succ hp hy, decide_eq_true_eq] at hg
          obtain ⟨ys, z, e, hz1, hz2⟩ := inv.last j y rfl hy hg.2.1
          rw [e, has_append, has_one] at ih
          rw [e, longer_append, has_append, has_one, ← ih]
          have hze := inv.each z (by rw [e]; simp)
          have e2 : In ⟨z.l, z.n + 1, z.p⟩ s v ↔ In z s v ∨ (s = ((j + 1 : Nat) : Int) ∧ v = p ∧ 0 ≤ p) := by
            unfold In
            simp only
            constructor
            · rintro ⟨a, b, c⟩
              by_cases d : s < z.l + z.n
              · exact .inl ⟨a, d, c⟩
              · exact .inr ⟨by omega, by omega, by omega⟩
            · rintro (⟨a, b, c⟩ | ⟨a, b, c⟩)
              · exact ⟨a, by omega, c⟩
              · exact ⟨by omega, by omega, by omega⟩
          rw [e2, or_assoc]
      | false =>
        rw [runs_step3 hp h1 hg, has_append, has_one, ih]
        have e2 : In ⟨k, 1, p⟩ s v ↔ (s = k ∧ v = p ∧ 0 ≤ p) := by
          unfold In
          simp only
          omega
        rw [e2]

theorem adj_apart : ∀ {xs : List Op3}, (∀ x ∈ xs, 1 ≤ x.n) → (∀ (i : Nat) (a x : Op3), xs[i]? = some a → xs[i + 1]? = some x → a.n ≤ x.l - a.l ∧ ¬ (x.l - a.l = a.n ∧ x.p - a.p = a.n)) → xs.Pairwise Apart
  | [], _, _ => List.Pairwise.nil
  | x :: r, h, ha => by
    have ih := adj_apart (xs := r) (fun z hz => h z (List.mem_cons_of_mem _ hz)) (fun i a y h1 h2 => ha (i + 1) a y (by simpa using h1) (by simpa using h2))
    rw [List.pairwise_cons]
    refine ⟨fun z hz => ?_, ih⟩
    cases r with
    | nil => cases hz
    | cons y r =>
      have h1 := ha 0 x y rfl rfl
      rcases List.mem_cons.1 hz with rfl | hz
      · unfold Apart; omega
      · have h2 := (List.pairwise_cons.1 ih).1 z hz
        have h3 := h y (by simp)
        unfold Apart at h2 ⊢
        omega

/-- A table and the runs that tell the same. -/
def Twin (t : List Int) (X : List Op3) : Prop := Canon t.length X ∧ ∀ s v, Has X s v ↔ Tells t t.length s v

theorem twin_of {t : List Int} (h : okT t) : Twin t (runsTo t t.length) := by
  have hh := runsTo_has h.ok t.length (Nat.le_refl _)
  have inv := runInv h.ok t.length (Nat.le_refl _)
  refine ⟨⟨fun x hx => ?_, adj_apart (fun x hx => (inv.each x hx).2.1) inv.pair⟩, hh⟩
  have h1 := inv.each x hx
  obtain ⟨j, h2, h3, h4, h5⟩ := (hh (x.l + x.n - 1) (x.p + x.n - 1)).1 ⟨x, hx, by unfold In; omega⟩
  have := h _ (List.mem_of_getElem? h4)
  unfold Num
  omega

theorem twin_runs {t : List Int} {X : List Op3} (ht : okT t) (h : Twin t X) : X = runsTo t t.length := by
  have h2 := twin_of ht
  exact canon_unique h.1 h2.1 fun s v => by rw [h.2, h2.2]

theorem putTo_get (t : List Int) (lba : Nat) (pg : Nat → Int) : ∀ (k : Nat), lba + k ≤ t.length → ∀ s, (putTo t lba pg k)[s]? = if lba ≤ s ∧ s < lba + k then some (pg (s - lba)) else t[s]?
  | 0, _, s => by rw [if_neg (by omega)]; rfl
  | k + 1, h, s => by
    rw [putTo, List.getElem?_set, putTo_length]
    by_cases h1 : lba + k = s
    · rw [if_pos h1, if_pos (by omega), if_pos (by omega)]
      congr 2
      omega
    · rw [if_neg h1, putTo_get t lba pg k (by omega)]
      by_cases h2 : lba ≤ s ∧ s < lba + k
      · rw [if_pos h2, if_pos (by omega)]
      · rw [if_neg h2, if_neg (by omega)]

theorem twin_set {t : List Int} {xs : List Id3} (h : Twin t (xs.map op3)) (hl : t.length ≤ 512) (lba len : Nat) (phys : Int) (hr : 1 ≤ len ∧ lba + len ≤ t.length) (hp : 0 ≤ phys ∧ phys ≤ 1048576) :
    Twin (putTo t lba (fun i => phys + i) len) (changed xs lba len (some ⟨lba, len, phys⟩)) := by
  obtain ⟨h1, h2⟩ := change_law h.1 lba len (by omega) (some ⟨lba, len, phys⟩) (fun m hm => by cases hm; refine ⟨rfl, rfl, ?_⟩; unfold Num; simp only; omega)
  unfold Twin
  rw [putTo_length]
  refine ⟨h1, fun s v => ?_⟩
  rw [h2, h.2]
  unfold Tells
  have hg := putTo_get t lba (fun i => phys + i) len hr.2
  constructor
  · rintro (⟨a, b, m, hm, c⟩ | ⟨a, j, b, c, d, e⟩)
    · cases hm
      unfold In at c
      simp only at c
      obtain ⟨j, rfl⟩ := Int.eq_ofNat_of_zero_le (show 0 ≤ s by omega)
      refine ⟨j, rfl, by omega, ?_, by omega⟩
      rw [hg, if_pos (by omega), Option.some.injEq]
      omega
    · refine ⟨j, b, c, ?_, e⟩
      rw [hg, if_neg (by omega)]
      exact d
  · rintro ⟨j, b, c, d, e⟩
    rw [hg] at d
    by_cases h3 : lba ≤ j ∧ j < lba + len
    · rw [if_pos h3, Option.some.injEq] at d
      refine .inl ⟨by omega, by omega, _, rfl, ?_⟩
      unfold In
      simp only
      omega
    · rw [if_neg h3] at d
      exact .inr ⟨by omega, j, b, c, d, e⟩

theorem twin_clear {t : List Int} {xs : List Id3} (h : Twin t (xs.map op3)) (hl : t.length ≤ 512) (lba len : Nat) (hr : 1 ≤ len ∧ lba + len ≤ t.length) :
    Twin (putTo t lba (fun _ => -1) len) (changed xs lba len none) := by
  obtain ⟨h1, h2⟩ := change_law h.1 lba len (by omega) none (fun m hm => by cases hm)
  unfold Twin
  rw [putTo_length]
  refine ⟨h1, fun s v => ?_⟩
  rw [h2, h.2]
  unfold Tells
  have hg := putTo_get t lba (fun _ => -1) len hr.2
  constructor
  · rintro (⟨a, b, m, hm, c⟩ | ⟨a, j, b, c, d, e⟩)
    · cases hm
    · refine ⟨j, b, c, ?_, e⟩
      rw [hg, if_neg (by omega)]
      exact d
  · rintro ⟨j, b, c, d, e⟩
    rw [hg] at d
    by_cases h3 : lba ≤ j ∧ j < lba + len
    · rw [if_pos h3, Option.some.injEq] at d
      omega
    · rw [if_neg h3] at d
      exact .inr ⟨by omega, j, b, c, d, e⟩

theorem twin_new (n : Nat) : Twin (List.replicate n (-1)) [] := by
  refine ⟨⟨fun x hx => (by cases hx), List.Pairwise.nil⟩, fun s v => ⟨fun h => absurd h has_nil, ?_⟩⟩
  rintro ⟨j, _, _, h, h2⟩
  have := List.mem_of_getElem? h
  simp only [List.mem_replicate] at this
  omega

theorem okT_put {t : List Int} (ht : okT t) (lba : Nat) (pg : Nat → Int) : ∀ k, (∀ i, i < k → -1 ≤ pg i ∧ pg i ≤ 1049087) → okT (putTo t lba pg k)
  | 0, _ => ht
  | k + 1, hp => by
    intro x hx
    rw [putTo] at hx
    rcases List.mem_or_eq_of_mem_set hx with h | h
    · exact okT_put ht lba pg k (fun i hi => hp i (by omega)) x h
    · rw [h]; exact hp k (by omega)
theorem okT_new (n : Nat) : okT (List.replicate n (-1)) := fun x hx => by simp only [List.mem_replicate] at hx; omega

/-- The lengths that a change needs. -/
theorem changed_facts {n lba len : Int} {mid : Option Op3} {xs : List Id3} (h : Canon n (changed xs lba len mid)) (hn : 0 ≤ n ∧ n ≤ 512) :
    (cutPre xs lba).length + (layL [] [cutA xs lba, mid, cutB xs lba len]).length + (cutPost xs (lba + len)).length ≤ 512 ∧
      ((cutPre xs lba).map op3 ++ layL [] [cutA xs lba, mid, cutB xs lba len] ++ (cutPost xs (lba + len)).map op3).Pairwise fun x y => x.l < y.l := by
  have h1 := canon_length h hn.1
  unfold changed at h h1
  simp only [List.length_append, List.length_map] at h1
  exact ⟨by omega, canon_lt h⟩

theorem canon_small {n : Int} {xs : List Id3} (h : Canon n (xs.map op3)) (hn : n ≤ 512) : Small xs := fun x hx => by
  have := h.1 (op3 x) (List.mem_map_of_mem hx)
  unfold Num op3 at this
  simp only at this
  omega
end Lo
end Go.Proofs.YtjmhkcfdmcjilaaGreat
/- Walks of the map of runs: Set, Clear, Capacity, Most, Runs. -/
set_option linter.unusedVariables false
set_option linter.unusedSimpArgs false
namespace Go.Proofs.YtjmhkcfdmcjilaaGreat
namespace Lo
open Go.RowKit Ai Fi

/-- What Set does to a table when there is room, and what it answers. -/
def mapSet (t : List Int) (lba len phys : Int) : List Int × Int :=
  if rightR t.length lba len = true ∧ 0 ≤ phys ∧ phys ≤ 1048576 then (putTo t lba.toNat (fun i => phys + i) len.toNat, 0) else (t, 1)
def mapClear (t : List Int) (lba len : Int) : List Int × Int :=
  if rightR t.length lba len = true then (putTo t lba.toNat (fun _ => -1) len.toNat, 0) else (t, 1)

def RPost (w : World) (m t a g : Nat) (cp : Int) (tb : List Int × Int) (e : Ending) (w' : World) : Prop :=
  e = .returned (.int .i64 tb.2) ∧ ModB (TS t a g) w w' ∧ ∃ A' T', RMap w' m t a g cp A' T' ∧ Twin tb.1 (T'.xs.map op3)

theorem PtrIs.ptr {w : World} {u v : Value} {o : Option Op3} (h : PtrIs w u o v) : ∃ p, u = .pointer p := by
  cases o with
  | none => exact ⟨_, h⟩
  | some x => obtain ⟨c, h, -⟩ := h; exact ⟨_, h⟩

theorem PtrIs.at {w W : World} {u v : Value} {o : Option Op3} (h : PtrIs w u o v) (hb : Below w.heap.size w W) {g i : Nat} (hc : W.cell? ⟨g, i, none⟩ = some u) :
    match (motive := Option Op3 → Prop) o with
    | none => W.cell? ⟨g, i, none⟩ = some (.pointer none)
    | some x => ∃ c, W.cell? ⟨g, i, none⟩ = some (.pointer (some ⟨c, 0, none⟩)) ∧ W.heap[c]? = some (.cells #[.int .i64 x.l, .int .i64 x.n, .int .i64 x.p] 94 (0, 0)) := by
  cases o with
  | none => simp only; rw [hc]; exact congrArg some h
  | some x =>
    obtain ⟨c, h1, h2, -⟩ := h
    exact ⟨c, by rw [hc, h1], by rw [hb.block c (Array.getElem?_eq_some_iff.1 h2).1]; exact h2⟩

theorem below2 {w w1 : World} (h : Below w.heap.size w w1) (o p : Obj) : Below w.heap.size w ((w1.alloc o).alloc p) :=
  (h.alloc h.size o).alloc (by have := h.size; simp; omega) p

theorem pts3 {w : World} {pa pb : Option Addr} {v v' : Value} {a b : Option Op3} {x : Op3} (ha : PtrIs w (.pointer pa) a v) (hb : PtrIs w (.pointer pb) b v') :
    Pts ((w.alloc (.cells #[.int .i64 x.l, .int .i64 x.n, .int .i64 x.p] 94)).alloc (.cells #[.pointer pa, .pointer (some ⟨w.heap.size, 0, none⟩), .pointer pb] 276)) (w.heap.size + 1) [a, some x, b] := by
  obtain ⟨W1, hW1⟩ : ∃ W1, W1 = w.alloc (.cells #[.int .i64 x.l, .int .i64 x.n, .int .i64 x.p] 94) := ⟨_, rfl⟩
  have hs : W1.heap.size = w.heap.size + 1 := by rw [hW1]; simp
  have hx : W1.heap[w.heap.size]? = some (.cells #[.int .i64 x.l, .int .i64 x.n, .int .i64 x.p] 94 (0, 0)) := by rw [hW1]; exact heap_alloc_new w _
  have hB1 : Below w.heap.size w W1 := by rw [hW1]; exact (Below.refl _ _).alloc (Nat.le_refl _) _
  rw [← hW1, ← hs]
  clear hW1
  obtain ⟨W2, hW2⟩ : ∃ W2, W2 = W1.alloc (.cells #[.pointer pa, .pointer (some ⟨w.heap.size, 0, none⟩), .pointer pb] 276) := ⟨_, rfl⟩
  have hg : W2.heap[W1.heap.size]? = some (.cells #[.pointer pa, .pointer (some ⟨w.heap.size, 0, none⟩), .pointer pb] 276 (0, 0)) := by rw [hW2]; exact heap_alloc_new W1 _
  have hB2 : Below W1.heap.size W1 W2 := by rw [hW2]; exact (Below.refl _ _).alloc (Nat.le_refl _) _
  rw [← hW2]
  have hB : Below w.heap.size w W2 := hB1.trans (hB2.mono hB1.size)
  refine ⟨(Array.getElem?_eq_some_iff.1 hg).1, fun i o hi => ?_⟩
  match i, hi with
  | 0, hi =>
    simp only [List.getElem?_cons_zero, Option.some.injEq] at hi
    subst hi
    exact ha.at hB (by rw [cell_of_row _ _ _ _ _ _ hg]; rfl)
  | 1, hi =>
    simp only [List.getElem?_cons_succ, List.getElem?_cons_zero, Option.some.injEq] at hi
    subst hi
    exact ⟨w.heap.size, by rw [cell_of_row _ _ _ _ _ _ hg]; rfl, by rw [hB2.block _ (by omega)]; exact hx⟩
  | 2, hi =>
    simp only [List.getElem?_cons_succ, List.getElem?_cons_zero, Option.some.injEq] at hi
    subst hi
    exact hb.at hB (by rw [cell_of_row _ _ _ _ _ _ hg]; rfl)
  | i + 3, hi => simp at hi

theorem cut_fit {n : Int} {xs : List Id3} (h : Canon n (xs.map op3)) (hn : n ≤ 512) {lba len : Int} (hr : 0 ≤ lba ∧ 1 ≤ len ∧ lba + len ≤ n) {mid : Option Op3} (hm : ∀ y, mid = some y → Fit y ∧ y.l ≤ 4096 ∧ y.n ≤ 4096) :
    ∀ x, some x ∈ [cutA xs lba, mid, cutB xs lba len] → Fit x ∧ x.l ≤ 4096 ∧ x.n ≤ 4096 := by
  obtain ⟨-, -, -, hO, hT, hT2⟩ := cut_split h lba len (by omega)
  obtain ⟨hx, -⟩ := cut_split h lba len (by omega)
  have hB := cutB_spec h lba len (by omega)
  have mO : ∀ x ∈ cutOld xs lba len, 0 ≤ x.b ∧ 1 ≤ x.n ∧ x.b + x.n ≤ n ∧ 0 ≤ x.p ∧ x.p + x.n ≤ 1049088 := fun x hm => by
    have := h.1 (op3 x) (List.mem_map_of_mem (by rw [hx]; simp [hm]))
    unfold Num op3 at this
    exact this
  intro x hxm
  simp only [List.mem_cons, List.not_mem_nil, or_false] at hxm
  rcases hxm with e | e | e
  · unfold cutA at e
    cases ht : touch xs lba with
    | none => rw [ht] at e; cases e
    | some r =>
      rw [ht] at e
      simp only [Option.some.injEq] at e
      subst e
      have h2 := hT2 r ht
      have := mO r h2.1
      unfold Fit
      simp only
      omega
  · exact hm x e.symm
  · rcases hB with ⟨r, hr, h1, h2⟩ | ⟨h1, h2⟩
    · rw [h2] at e
      cases e
      have := mO r hr
      have := hO r hr
      unfold Fit tailAt
      simp only
      omega
    · rw [h1] at e; cases e

theorem mid_ok {N : Nat} (hl : 1 ≤ N ∧ N ≤ 512) {lba len phys : Int} (hr : 1 ≤ len ∧ len ≤ N ∧ 0 ≤ lba ∧ lba ≤ N - len) (h1 : 0 ≤ phys) (h2 : phys ≤ 1048576) {y : Op3} (hy : some (⟨lba, len, phys⟩ : Op3) = some y) : y.l = lba ∧ y.n = len ∧ Num N y := by
  cases hy
  refine ⟨rfl, rfl, ?_⟩
  unfold Num
  simp only
  omega

theorem change_cut {w w1 W w3 : World} {m t a g : Nat} {N : Nat} {A : Ar} {T : Tr} (hM : RMap w m t a g N A T) (hb : Below w.heap.size w W) (hb3 : Below W.heap.size W w3) (hC : Canon N (T.xs.map op3)) (hl : 1 ≤ N ∧ N ≤ 512) {lba len : Int} (hr : 1 ≤ len ∧ len ≤ N ∧ 0 ≤ lba ∧ lba ≤ N - len)
    {mid : Option Op3} (hm : ∀ y, mid = some y → y.l = lba ∧ y.n = len ∧ Num N y) {A1 : Option Addr} {c1 : Nat} (hO : w1.ownsRow w.heap.size 94 3 (.slice A1 (cutOld T.xs lba len).length c1) (cutOld T.xs lba len).length (runV ((cutOld T.xs lba len).map op3))) (hw1 : Below w.heap.size w w1) (hW : Below w1.heap.size w1 W)
    {A2 : Option Addr} {c2 : Nat} (hF : w3.ownsRow W.heap.size 94 3 (.slice A2 (layL [] [cutA T.xs lba, mid, cutB T.xs lba len]).length c2) (layL [] [cutA T.xs lba, mid, cutB T.xs lba len]).length (runV (layL [] [cutA T.xs lba, mid, cutB T.xs lba len]))) :
    Calls Tryz.prog 217 #[.pointer (some ⟨m, 0, none⟩), .slice A1 (cutOld T.xs lba len).length c1, .slice A2 (layL [] [cutA T.xs lba, mid, cutB T.xs lba len]).length c2] w3 (ChangePost w3 m t a g N (changed T.xs lba len mid)) := by
  obtain ⟨hx, -⟩ := cut_split hC lba len (by omega)
  have hlaw := (change_law hC lba len (by omega) mid hm).1
  have hf := changed_facts hlaw (by omega)
  have hbt : Below w.heap.size w w3 := hb.trans (hb3.mono hb.size)
  refine mchange_ok w3 m t a g N A T (hM.below hbt) w.heap.size ⟨hM.tr.tr.ltt, hM.tr.tr.ar.lta, hM.tr.tr.ar.ltg⟩ hbt.size (cutPre T.xs lba) (cutOld T.xs lba len) (cutPost T.xs (lba + len)) hx _ hf.1 hf.2 A1 c1 (own_below (own_below hO hW) hb3) A2 c2 (own_base hF hb.size)

theorem twin_setI {t : List Int} {xs : List Id3} (h : Twin t (xs.map op3)) (hl : 1 ≤ t.length ∧ t.length ≤ 512) {lba len phys : Int} (hr : 1 ≤ len ∧ len ≤ t.length ∧ 0 ≤ lba ∧ lba ≤ t.length - len) (h1 : 0 ≤ phys) (h2 : phys ≤ 1048576) :
    Twin (putTo t lba.toNat (fun i => phys + i) len.toNat) (changed xs lba len (some ⟨lba, len, phys⟩)) := by
  obtain ⟨l, rfl⟩ := Int.eq_ofNat_of_zero_le hr.2.2.1
  obtain ⟨n, rfl⟩ := Int.eq_ofNat_of_zero_le (show 0 ≤ len by omega)
  exact twin_set h hl.2 l n phys (by omega) ⟨h1, h2⟩
theorem twin_clearI {t : List Int} {xs : List Id3} (h : Twin t (xs.map op3)) (hl : 1 ≤ t.length ∧ t.length ≤ 512) {lba len : Int} (hr : 1 ≤ len ∧ len ≤ t.length ∧ 0 ≤ lba ∧ lba ≤ t.length - len) :
    Twin (putTo t lba.toNat (fun _ => -1) len.toNat) (changed xs lba len none) := by
  obtain ⟨l, rfl⟩ := Int.eq_ofNat_of_zero_le hr.2.2.1
  obtain ⟨n, rfl⟩ := Int.eq_ofNat_of_zero_le (show 0 ≤ len by omega)
  exact twin_clear h hl.2 l n (by omega)

theorem below2' {w1 : World} (o p : Obj) : Below w1.heap.size w1 ((w1.alloc o).alloc p) := below2 (Below.refl _ _) o p

set_option maxHeartbeats 8000000 in
set_option maxRecDepth 100000 in
theorem rset_ok (w : World) (m t a g : Nat) (A : Ar) (T : Tr) (tb : List Int) (hM : RMap w m t a g tb.length A T) (hT : Twin tb (T.xs.map op3)) (hl : 1 ≤ tb.length ∧ tb.length ≤ 512) (lba len phys : Int) :
    Calls Tryz.prog 214 #[.pointer (some ⟨m, 0, none⟩), .int .i64 lba, .int .i64 len, .int .i64 phys] w (RPost w m t a g tb.length (mapSet tb lba len phys)) := by
  have HM := Ai.Aside.mk hM
  have HT := Ai.Aside.mk hT
  have HL := Ai.Aside.mk hl
  obtain ⟨s, hs⟩ : ∃ s, s = mapSet tb lba len phys := ⟨_, rfl⟩
  rw [← hs]
  obtain ⟨q, hq⟩ : ∃ q, q = rightR tb.length lba len := ⟨_, rfl⟩
  have HR := Ai.Aside.mk (mright_ok w m t a g tb.length A T hM (by omega) lba len)
  rw [← hq] at HR
  have HS := Ai.Aside.mk hs
  have HQ := Ai.Aside.mk hq
  clear hs hq hM hT hl
  have hbad : ∀ (b : Bool), s = (tb, 1) → RPost w m t a g tb.length s (.returned (.int .i64 1)) w := fun _ h => by
    rw [h]
    exact ⟨rfl, ModB.of_below (Below.refl _ _) _, A, T, HM.out, HT.out⟩
  have HBAD := Ai.Aside.mk hbad
  clear hbad
  cases q with
  | false =>
    have hs1 := Ai.Aside.mk (show s = (tb, 1) by rw [HS.out, mapSet, if_neg (by rw [← HQ.out]; simp)])
    go_enter Tryz.func214, Tryz.ntmps214
    go_wp2_with (go_at_call 215; go_loud (refine HR.out.mono ?_; rintro e w1 ⟨rfl, rfl⟩))
    go_ret
    exact HBAD.out true hs1.out
  | true =>
    by_cases hp1 : phys < 0
    · have hs1 := Ai.Aside.mk (show s = (tb, 1) by rw [HS.out, mapSet, if_neg (by omega)])
      go_enter Tryz.func214, Tryz.ntmps214
      go_wp2_with (go_at_call 215; go_loud (refine HR.out.mono ?_; rintro e w1 ⟨rfl, rfl⟩))
      go_ret
      exact HBAD.out true hs1.out
    · by_cases hp2 : 1048576 < phys
      · have hs1 := Ai.Aside.mk (show s = (tb, 1) by rw [HS.out, mapSet, if_neg (by omega)])
        go_enter Tryz.func214, Tryz.ntmps214
        go_wp2_with (go_at_call 215; go_loud (refine HR.out.mono ?_; rintro e w1 ⟨rfl, rfl⟩))
        go_ret
        exact HBAD.out true hs1.out
      · have hr : 1 ≤ len ∧ len ≤ tb.length ∧ 0 ≤ lba ∧ lba ≤ tb.length - len := by
          have := HQ.out.symm
          simpa only [rightR, decide_eq_true_eq] using this
        have hll := HL.out
        have HC := Ai.Aside.mk (cut_ok w m t a g tb.length A T HM.out (canon_small HT.out.1 (by omega)) lba len ⟨by omega, by omega, by omega⟩)
        have hs1 := Ai.Aside.mk (show s = (putTo tb lba.toNat (fun i => phys + i) len.toNat, 0) by rw [HS.out, mapSet, if_pos ⟨HQ.out.symm, by omega, by omega⟩])
        have HRR := Ai.Aside.mk hr
        clear hr hll
        go_enter Tryz.func214, Tryz.ntmps214
        go_upto_region 4 with (first | (go_at_call 215; go_loud (refine HR.out.mono ?_; rintro e w1 ⟨rfl, rfl⟩)) | (go_at_call 216; go_loud (refine HC.out.mono ?_; rintro e w1 ⟨v, ua, ub, v0, rfl, hown, hua, hub, hbl⟩; obtain ⟨pa, rfl⟩ := hua.ptr; obtain ⟨pb, rfl⟩ := hub.ptr; obtain ⟨A1, c1, rfl⟩ := own_slice hown; have HO := Ai.Aside.mk hown; have HUA := Ai.Aside.mk hua; have HUB := Ai.Aside.mk hub; have HB := Ai.Aside.mk hbl; clear hown hua hub hbl)))
        have HLY := Ai.Aside.mk (lay_ok _ _ 3 [cutA T.xs lba, some ⟨lba, len, phys⟩, cutB T.xs lba len] (pts3 HUA.out HUB.out (x := ⟨lba, len, phys⟩)) (by simp) (cut_fit HT.out.1 (by have := HL.out.2; omega) ⟨HRR.out.2.2.1, HRR.out.1, by have := HRR.out; omega⟩ (fun y hy => by cases hy; have := HRR.out; have := HL.out; unfold Fit; simp only; omega)))
        have HBB := Ai.Aside.mk (below2 HB.out (.cells #[.int .i64 lba, .int .i64 len, .int .i64 phys] 94) (.cells #[.pointer pa, .pointer (some ⟨w1.heap.size, 0, none⟩), .pointer pb] 276))
        go_wp2_with (first | (go_at_call 218; go_loud (refine HLY.out.mono ?_; rintro e w3 ⟨v3, rfl, hown, hb⟩; have HF := Ai.Aside.mk hown; have HB3 := Ai.Aside.mk hb; clear hown hb; obtain ⟨A2, c2, rfl⟩ := own_slice HF.out; have HCH := Ai.Aside.mk (change_cut HM.out HBB.out HB3.out HT.out.1 HL.out HRR.out (fun y hy => mid_ok HL.out HRR.out hp1 hp2 hy) HO.out HB.out (below2' _ _) HF.out))) | (go_at_call 217; go_loud (refine HCH.out.mono ?_; rintro e w4 ⟨rfl, hmod, A', T', hm', hx'⟩; have HM4 := Ai.Aside.mk hmod; have HR4 := Ai.Aside.mk hm'; have HX4 := Ai.Aside.mk hx'; clear hmod hm' hx')))
        go_ret
        rw [hs1.out]
        refine ⟨rfl, ((ModB.of_below HBB.out _).below1 HB3.out).trans HM4.out, A', T', HR4.out, ?_⟩
        rw [HX4.out]
        exact twin_setI HT.out HL.out HRR.out hp1 hp2

theorem pts2 {w : World} {pa pb : Option Addr} {v v' : Value} {a b : Option Op3} (ha : PtrIs w (.pointer pa) a v) (hb : PtrIs w (.pointer pb) b v') :
    Pts (w.alloc (.cells #[.pointer pa, .pointer pb] 276)) w.heap.size [a, b] := by
  have hg : (w.alloc (.cells #[.pointer pa, .pointer pb] 276)).heap[w.heap.size]? = some (.cells #[.pointer pa, .pointer pb] 276 (0, 0)) := heap_alloc_new w _
  have hB : Below w.heap.size w (w.alloc (.cells #[.pointer pa, .pointer pb] 276)) := (Below.refl _ _).alloc (Nat.le_refl _) _
  generalize w.alloc _ = W2 at hg hB
  refine ⟨(Array.getElem?_eq_some_iff.1 hg).1, fun i o hi => ?_⟩
  match i, hi with
  | 0, hi =>
    simp only [List.getElem?_cons_zero, Option.some.injEq] at hi
    subst hi
    exact ha.at hB (by rw [cell_of_row _ _ _ _ _ _ hg]; rfl)
  | 1, hi =>
    simp only [List.getElem?_cons_succ, List.getElem?_cons_zero, Option.some.injEq] at hi
    subst hi
    exact hb.at hB (by rw [cell_of_row _ _ _ _ _ _ hg]; rfl)
  | i + 2, hi => simp at hi

theorem lay_none (a b : Option Op3) : layL [] [a, none, b] = layL [] [a, b] := by
  cases a with
  | none => rfl
  | some x => rw [layL_some, layL_some]; rfl

theorem cut_fit2 {n : Int} {xs : List Id3} (h : Canon n (xs.map op3)) (hn : n ≤ 512) {lba len : Int} (hr : 0 ≤ lba ∧ 1 ≤ len ∧ lba + len ≤ n) : ∀ x, some x ∈ [cutA xs lba, cutB xs lba len] → Fit x ∧ x.l ≤ 4096 ∧ x.n ≤ 4096 := by
  intro x hx
  refine cut_fit h hn hr (mid := none) (fun y hy => by cases hy) x ?_
  simp only [List.mem_cons, List.not_mem_nil, or_false] at hx ⊢
  rcases hx with e | e
  · exact .inl e
  · exact .inr (.inr e)

set_option maxHeartbeats 8000000 in
set_option maxRecDepth 100000 in
theorem rclear_ok (w : World) (m t a g : Nat) (A : Ar) (T : Tr) (tb : List Int) (hM : RMap w m t a g tb.length A T) (hT : Twin tb (T.xs.map op3)) (hl : 1 ≤ tb.length ∧ tb.length ≤ 512) (lba len : Int) :
    Calls Tryz.prog 208 #[.pointer (some ⟨m, 0, none⟩), .int .i64 lba, .int .i64 len] w (RPost w m t a g tb.length (mapClear tb lba len)) := by
  have HM := Ai.Aside.mk hM
  have HT := Ai.Aside.mk hT
  have HL := Ai.Aside.mk hl
  obtain ⟨s, hs⟩ : ∃ s, s = mapClear tb lba len := ⟨_, rfl⟩
  rw [← hs]
  obtain ⟨q, hq⟩ : ∃ q, q = rightR tb.length lba len := ⟨_, rfl⟩
  have HR := Ai.Aside.mk (mright_ok w m t a g tb.length A T hM (by omega) lba len)
  rw [← hq] at HR
  have HS := Ai.Aside.mk hs
  have HQ := Ai.Aside.mk hq
  clear hs hq hM hT hl
  cases q with
  | false =>
    have hs1 := Ai.Aside.mk (show s = (tb, 1) by rw [HS.out, mapClear, if_neg (by rw [← HQ.out]; simp)])
    go_enter Tryz.func208, Tryz.ntmps208
    go_wp2_with (go_at_call 215; go_loud (refine HR.out.mono ?_; rintro e w1 ⟨rfl, rfl⟩))
    go_ret
    rw [hs1.out]
    exact ⟨rfl, ModB.of_below (Below.refl _ _) _, A, T, HM.out, HT.out⟩
  | true =>
    have hr : 1 ≤ len ∧ len ≤ tb.length ∧ 0 ≤ lba ∧ lba ≤ tb.length - len := by
      have := HQ.out.symm
      simpa only [rightR, decide_eq_true_eq] using this
    have hll := HL.out
    have HC := Ai.Aside.mk (cut_ok w m t a g tb.length A T HM.out (canon_small HT.out.1 (by omega)) lba len ⟨by omega, by omega, by omega⟩)
    have hs1 := Ai.Aside.mk (show s = (putTo tb lba.toNat (fun _ => -1) len.toNat, 0) by rw [HS.out, mapClear, if_pos HQ.out.symm])
    have HRR := Ai.Aside.mk hr
    clear hr hll
    go_enter Tryz.func208, Tryz.ntmps208
    go_upto_region 4 with (first | (go_at_call 215; go_loud (refine HR.out.mono ?_; rintro e w1 ⟨rfl, rfl⟩)) | (go_at_call 216; go_loud (refine HC.out.mono ?_; rintro e w1 ⟨v, ua, ub, v0, rfl, hown, hua, hub, hbl⟩; obtain ⟨pa, rfl⟩ := hua.ptr; obtain ⟨pb, rfl⟩ := hub.ptr; obtain ⟨A1, c1, rfl⟩ := own_slice hown; have HO := Ai.Aside.mk hown; have HUA := Ai.Aside.mk hua; have HUB := Ai.Aside.mk hub; have HB := Ai.Aside.mk hbl; clear hown hua hub hbl)))
    have HLY := Ai.Aside.mk (lay_ok _ _ 2 [cutA T.xs lba, cutB T.xs lba len] (pts2 HUA.out HUB.out) (by simp) (cut_fit2 HT.out.1 (by have := HL.out.2; omega) ⟨HRR.out.2.2.1, HRR.out.1, by have := HRR.out; omega⟩))
    rw [← lay_none] at HLY
    have HBB := Ai.Aside.mk (HB.out.alloc HB.out.size (.cells #[.pointer pa, .pointer pb] 276))
    go_wp2_with (first | (go_at_call 218; go_loud (refine HLY.out.mono ?_; rintro e w3 ⟨v3, rfl, hown, hb⟩; have HF := Ai.Aside.mk hown; have HB3 := Ai.Aside.mk hb; clear hown hb; obtain ⟨A2, c2, rfl⟩ := own_slice HF.out; have HCH := Ai.Aside.mk (change_cut HM.out HBB.out HB3.out HT.out.1 HL.out HRR.out (fun y hy => by cases hy) HO.out HB.out ((Below.refl _ _).alloc (Nat.le_refl _) _) HF.out))) | (go_at_call 217; go_loud (refine HCH.out.mono ?_; rintro e w4 ⟨rfl, hmod, A', T', hm', hx'⟩; have HM4 := Ai.Aside.mk hmod; have HR4 := Ai.Aside.mk hm'; have HX4 := Ai.Aside.mk hx'; clear hmod hm' hx')))
    go_ret
    rw [hs1.out]
    refine ⟨rfl, ((ModB.of_below HBB.out _).below1 HB3.out).trans HM4.out, A', T', HR4.out, ?_⟩
    rw [HX4.out]
    exact twin_clearI HT.out HL.out HRR.out

theorem rcap_ok (w : World) (m t a g : Nat) (n : Int) (A : Ar) (T : Tr) (hM : RMap w m t a g n A T) : Calls Tryz.prog 207 #[.pointer (some ⟨m, 0, none⟩)] w fun e w' => e = .returned (.int .i64 n) ∧ w' = w := by
  obtain ⟨h0, h1, h2, h3⟩ := hM.cells
  clear hM
  go_enter Tryz.func207, Tryz.ntmps207
  go_wp2_with fail
  go_ret
  exact ⟨rfl, rfl⟩
theorem rmost_ok (w : World) (m t a g : Nat) (n : Int) (A : Ar) (T : Tr) (hM : RMap w m t a g n A T) : Calls Tryz.prog 211 #[.pointer (some ⟨m, 0, none⟩)] w fun e w' => e = .returned (.int .i64 512) ∧ w' = w := by
  obtain ⟨h0, h1, h2, h3⟩ := hM.cells
  clear hM
  go_enter Tryz.func211, Tryz.ntmps211
  go_wp2_with fail
  go_ret
  exact ⟨rfl, rfl⟩

theorem rruns_ok (w : World) (m t a g : Nat) (n : Int) (A : Ar) (T : Tr) (tb : List Int) (hM : RMap w m t a g n A T) (hT : Twin tb (T.xs.map op3)) (ht : okT tb) :
    Calls Tryz.prog 213 #[.pointer (some ⟨m, 0, none⟩)] w (AllPost w (runsTo tb tb.length)) := by
  have HA := Ai.Aside.mk (tall_ok w t a g 513 A T.xs.length T hM.tr.good.rep hM.tr.good.len hM.tr.tr)
  rw [twin_runs ht hT] at HA
  obtain ⟨h0, h1, h2, h3⟩ := hM.cells
  clear hM hT ht
  go_enter Tryz.func213, Tryz.ntmps213
  go_wp2_with (go_at_call 222; go_loud (refine HA.out.mono ?_; rintro e w1 ⟨v1, rfl, hown, hbl⟩; have HO := Ai.Aside.mk hown; have HB := Ai.Aside.mk hbl; clear hown hbl))
  go_ret
  exact ⟨_, rfl, HO.out, HB.out⟩
end Lo
end Go.Proofs.YtjmhkcfdmcjilaaGreat
/- Walks of the flat map: Clear, Capacity, Most. -/
set_option linter.unusedVariables false
set_option linter.unusedSimpArgs false
namespace Go.Proofs.YtjmhkcfdmcjilaaGreat
namespace Lo
open Go.RowKit Ai Fi

set_option maxHeartbeats 4000000 in
set_option maxRecDepth 100000 in
theorem change206_ok (w : World) (m : Nat) (most : Int) (g cap : Nat) (t : List Int) (hF : Flat w m most g cap t) (ho : okTab t) (hl : t.length ≤ 512) (lba n : Nat) (hn : 1 ≤ n) (hln : lba + n ≤ t.length) (pg : Nat → Int)
    (hp : ∀ i, i < n → -1 ≤ pg i ∧ pg i ≤ 2097152)
    (hcall : ∀ W, Below w.heap.size w W → ∀ i : Nat, i < n → Calls Tryz.prog 206 #[.int .i64 i] W fun e w' => e = .returned (.int .i64 (pg i)) ∧ w' = W) :
    Calls Tryz.prog 88 #[.pointer (some ⟨m, 0, none⟩), .int .i64 lba, .int .i64 n, .func (.func 206) #[] #[]] w fun e w' => ∃ g' cap' t' r, e = .returned (.int .i64 r) ∧ Mod w w' m ∧ Flat w' m most g' cap' t' ∧
      ((most < cntTo (putTo t lba pg n) t.length ∧ r = 5 ∧ t' = t) ∨ (¬ most < cntTo (putTo t lba pg n) t.length ∧ r = 0 ∧ t' = putTo t lba pg n)) := by
  obtain ⟨hc0, hc1⟩ := hF.cells
  have hm := hF.ltm
  have HF := Ai.Aside.mk hF
  have HOT := Ai.Aside.mk ho
  have HP := Ai.Aside.mk hp
  have HCALL := Ai.Aside.mk hcall
  obtain ⟨N, hN⟩ : ∃ N, N = t.length := ⟨_, rfl⟩
  have HN := Ai.Aside.mk hN
  rw [← hN] at hl hln hc1 ⊢
  clear hF ho hp hcall hN
  have HCL := Ai.Aside.mk (clone3_ok w 0 N (.slice (some ⟨g, 0, none⟩) N cap) (intsV t) (by rw [HN.out]; exact HF.out.row) (by omega) (ints_one t))
  go_enter Tryz.func88, Tryz.ntmps88
  go_wp2_with (go_at_call 103; go_loud (refine HCL.out.mono ?_; rintro e w1 ⟨v1, rfl, hown1, hb1, hnil1⟩; have HO := Ai.Aside.mk hown1; have HB := Ai.Aside.mk hb1; have HV := Ai.Aside.mk (show v1 ≠ .slice none 0 0 from fun e => by have := hnil1.1 e; cases this); clear hown1 hb1 hnil1))
  obtain ⟨g', cap', rfl⟩ : ∃ g' cap', v1 = .slice (some ⟨g', 0, none⟩) N cap' := by
    rcases HO.out.2 with ⟨h1, _⟩ | ⟨g', cap', cur, h1, _⟩
    · exact absurd h1 HV.out
    · exact ⟨g', cap', h1⟩
  have hgw : w.heap.size ≤ g' := (HO.out.lt g' rfl).1
  go_loopw [17] (fun v17 wr => ∃ (k : Nat), k ≤ n ∧ v17 = .int .i64 k ∧ Ai.Aside (wr.ownsRow w.heap.size 3 1 (.slice (some ⟨g', 0, none⟩) N cap') N (intsV (putTo t lba pg k)) ∧ Below w.heap.size w wr)) (fun v17 _ => n - (intOf v17).toNat)
  case atStart => exact ⟨0, by omega, rfl, ⟨HO.out, HB.out⟩⟩
  case round =>
    obtain ⟨k, hk, rfl, HR⟩ := hrel
    clear HO HB
    by_cases hlt : k < n
    · have hnx : lba + k < N := by omega
      obtain ⟨u, hu⟩ : ∃ u, wr.cell? ⟨g', lba + k, none⟩ = some u := by
        have h1 := HR.out.1.cellAt (lba + k) (by omega)
        have h2 : lba + k < (intsV (putTo t lba pg k)).length := by rw [intsV, List.length_map, putTo_length, ← HN.out]; exact hnx
        exact ⟨_, h1.trans (List.getElem?_eq_getElem h2)⟩
      have hfz := HR.out.1.frozenAt (lba + k)
      have HS := Ai.Aside.mk (HR.out.1.stored (lba + k) (.int .i64 (pg k)))
      have HCK := Ai.Aside.mk (HCALL.out wr HR.out.2 k hlt)
      have HB2 := Ai.Aside.mk (HR.out.2.setCell (p := ⟨g', lba + k, none⟩) hgw (.int .i64 (pg k)))
      have HE := Ai.Aside.mk (show (intsV (putTo t lba pg k)).set (lba + k) (.int .i64 (pg k)) = intsV (putTo t lba pg (k + 1)) by rw [putTo, intsV, intsV, List.map_set])
      generalize pg k = pk at *
      go_wp2_with (go_at_call 206; go_loud (refine HCK.out.mono ?_; rintro e w1 ⟨rfl, rfl⟩))
      go_roundw
      case rel => exact ⟨k + 1, by omega, by go_num, ⟨by rw [← HE.out]; exact HS.out.1, HB2.out⟩⟩
      case measure => simp [intOf]; omega
    · have hkn : k = n := by omega
      subst hkn
      have HT := Ai.Aside.mk (show Tab wr g' (putTo t lba pg k) from ⟨(HR.out.1.lt g' rfl).2, fun i x hx => by
        rw [HR.out.1.cellAt i (by rw [Nat.mul_one, HN.out, ← putTo_length t lba pg k]; exact (List.getElem?_eq_some_iff.1 hx).1), intsV, List.getElem?_map, hx]; rfl⟩)
      have hlen := putTo_length t lba pg k
      have HCNT := Ai.Aside.mk (fun (q : Nat) => count_ok (wr.drewN q) g' cap' (putTo t lba pg k) HT.out (putTo_ok HOT.out k HP.out) (by rw [hlen, ← HN.out]; exact hl))
      rw [hlen, ← HN.out] at HCNT
      clear hlen
      have hcb0 : wr.cell? ⟨m, 0, none⟩ = some (.int .i64 most) := by rw [HR.out.2.cell hm]; exact hc0
      have hcb1 : wr.cell? ⟨m, 1, none⟩ = some (.slice (some ⟨g, 0, none⟩) N cap) := by rw [HR.out.2.cell hm]; exact hc1
      have hfm : wr.frozen? ⟨m, 1, none⟩ = false := by
        rw [HR.out.2.frozen hm]
        exact frozen_of_row _ _ _ _ _ HF.out.obj
      obtain ⟨c, hcq⟩ : ∃ c : Nat, c = cntTo (putTo t lba pg k) N := ⟨_, rfl⟩
      have HCQ := Ai.Aside.mk hcq
      rw [← hcq] at HCNT
      clear hcq
      go_wp2_with fail
      go_quiet ((go_at_call 122; refine Calls.quiet_of (HCNT.out _)))
      go_wp2_with fail
      · have hlt2 : most < (c : Int) := by assumption
        go_ret
        exact ⟨g, cap, t, 5, rfl, Mod.of_below (below_drewN HR.out.2 _) m, HF.out.below (below_drewN HR.out.2 _), .inl ⟨by rw [← HCQ.out]; exact hlt2, rfl, rfl⟩⟩
      · have hlt2 : (c : Int) ≤ most := by assumption
        have hlen := putTo_length t lba pg k
        have HN2 : N = (putTo t lba pg k).length := by rw [hlen]; exact HN.out
        have hrow := own_base (base := 0) HR.out.1 (Nat.zero_le _)
        have hgl := (HR.out.1.lt g' rfl).2
        go_ret
        refine ⟨g', cap', putTo t lba pg k, 0, rfl, (Mod.of_below (below_drewN HR.out.2 _) m).trans (mod_set _ _ _ _), ?_, .inr ⟨by rw [← HCQ.out]; exact hlt2, rfl, rfl⟩⟩
        rw [HN2] at hrow ⊢
        exact flat_set (W := wr.drewN nq) (HF.out.below (below_drewN HR.out.2 _)) hrow (by omega) hgl

theorem clear1_ok (w : World) (i : Nat) : Calls Tryz.prog 206 #[.int .i64 i] w fun e w' => e = .returned (.int .i64 (-1)) ∧ w' = w := by
  go_enter Tryz.func206, Tryz.ntmps206
  go_wp2_with fail
  go_ret
  exact ⟨rfl, rfl⟩

/-- What a change did to the flat map, and the answer. -/
def FPost (w : World) (m : Nat) (tb : List Int × Int) (e : Ending) (w' : World) : Prop := ∃ g' cap', e = .returned (.int .i64 tb.2) ∧ Mod w w' m ∧ Flat w' m 512 g' cap' tb.1

theorem cnt_put (t : List Int) (lba : Nat) (pg : Nat → Int) (k : Nat) (hl : t.length ≤ 512) : ¬ (512 : Int) < cntTo (putTo t lba pg k) t.length := by
  have := cntTo_le (putTo t lba pg k) t.length
  omega

theorem flatSet_map (t : List Int) (hl : t.length ≤ 512) (lba len phys : Int) : flatSet t 512 lba len phys = mapSet t lba len phys := by
  unfold flatSet mapSet
  split
  · rw [if_neg (cnt_put _ _ _ _ hl)]
  · rfl

theorem fset_ok (w : World) (m g cap : Nat) (t : List Int) (hF : Flat w m 512 g cap t) (ho : okTab t) (hl : t.length ≤ 512) (lba len phys : Int) :
    Calls Tryz.prog 42 #[.pointer (some ⟨m, 0, none⟩), .int .i64 lba, .int .i64 len, .int .i64 phys] w (FPost w m (mapSet t lba len phys)) := by
  have := set_ok w m 512 g cap t hF ho hl lba len phys
  rw [flatSet_map t hl] at this
  exact this

set_option maxHeartbeats 4000000 in
set_option maxRecDepth 100000 in
theorem fclear_ok (w : World) (m g cap : Nat) (t : List Int) (hF : Flat w m 512 g cap t) (ho : okTab t) (hl : t.length ≤ 512) (lba len : Int) :
    Calls Tryz.prog 201 #[.pointer (some ⟨m, 0, none⟩), .int .i64 lba, .int .i64 len] w (FPost w m (mapClear t lba len)) := by
  have HF := Ai.Aside.mk hF
  have HOT := Ai.Aside.mk ho
  have HL := Ai.Aside.mk hl
  obtain ⟨s, hs⟩ : ∃ s, s = mapClear t lba len := ⟨_, rfl⟩
  rw [← hs]
  obtain ⟨q, hq⟩ : ∃ q, q = rightR t.length lba len := ⟨_, rfl⟩
  have HR := Ai.Aside.mk (fright_ok w m 512 g cap t hF hl lba len)
  rw [← hq] at HR
  have HS := Ai.Aside.mk hs
  have HQ := Ai.Aside.mk hq
  clear hs hq hF ho hl
  cases q with
  | false =>
    have hs1 := Ai.Aside.mk (show s = (t, 1) by rw [HS.out, mapClear, if_neg (by rw [← HQ.out]; simp)])
    go_enter Tryz.func201, Tryz.ntmps201
    go_wp2_with (go_at_call 87; go_loud (refine HR.out.mono ?_; rintro e w1 ⟨rfl, rfl⟩))
    go_ret
    rw [hs1.out]
    exact ⟨g, cap, rfl, Mod.of_below (Below.refl _ _) m, HF.out⟩
  | true =>
    have hr : 1 ≤ len ∧ len ≤ t.length ∧ 0 ≤ lba ∧ lba ≤ t.length - len := by
      have := HQ.out.symm
      simpa only [rightR, decide_eq_true_eq] using this
    obtain ⟨l, rfl⟩ := Int.eq_ofNat_of_zero_le hr.2.2.1
    obtain ⟨n, rfl⟩ := Int.eq_ofNat_of_zero_le (show 0 ≤ len by omega)
    have hln := HL.out
    have HCH := Ai.Aside.mk (change206_ok w m 512 g cap t HF.out HOT.out HL.out l n (by omega) (by omega) (fun _ => -1) (fun i hi => by omega) (fun W hW i hi => clear1_ok W i))
    have hs1 := Ai.Aside.mk (show s = (putTo t l (fun _ => -1) n, 0) by rw [HS.out, mapClear, if_pos HQ.out.symm]; rfl)
    clear hr hln
    go_enter Tryz.func201, Tryz.ntmps201
    go_wp2_with (first | (go_at_call 87; go_loud (refine HR.out.mono ?_; rintro e w1 ⟨rfl, rfl⟩)) | (go_at_call 88; go_loud (refine HCH.out.mono ?_; rintro e w1 ⟨g', cap', t', r, rfl, hmod, hfl, hwhat⟩; have HM := Ai.Aside.mk hmod; have HFL := Ai.Aside.mk hfl; have HW := Ai.Aside.mk hwhat; clear hmod hfl hwhat)))
    go_ret
    rcases HW.out with ⟨h1, h2, h3⟩ | ⟨h1, h2, h3⟩
    · exact absurd h1 (cnt_put _ _ _ _ HL.out)
    · rw [hs1.out, h2]
      exact ⟨g', cap', rfl, HM.out, by rw [h3] at HFL; exact HFL.out⟩

theorem fcap_ok (w : World) (m g cap : Nat) (t : List Int) (hF : Flat w m 512 g cap t) : Calls Tryz.prog 200 #[.pointer (some ⟨m, 0, none⟩)] w fun e w' => e = .returned (.int .i64 t.length) ∧ w' = w := by
  obtain ⟨h0, h1⟩ := hF.cells
  obtain ⟨n, hn⟩ : ∃ n, n = t.length := ⟨_, rfl⟩
  rw [← hn] at h1 ⊢
  clear hF hn
  go_enter Tryz.func200, Tryz.ntmps200
  go_wp2_with fail
  go_ret
  exact ⟨rfl, rfl⟩
theorem fmost_ok (w : World) (m g cap : Nat) (t : List Int) (hF : Flat w m 512 g cap t) : Calls Tryz.prog 204 #[.pointer (some ⟨m, 0, none⟩)] w fun e w' => e = .returned (.int .i64 512) ∧ w' = w := by
  obtain ⟨h0, h1⟩ := hF.cells
  clear hF
  go_enter Tryz.func204, Tryz.ntmps204
  go_wp2_with fail
  go_ret
  exact ⟨rfl, rfl⟩
end Lo
end Go.Proofs.YtjmhkcfdmcjilaaGreat
/- Walks of span: change, by either map. -/
set_option linter.unusedVariables false
set_option linter.unusedSimpArgs false
namespace Go.Proofs.YtjmhkcfdmcjilaaGreat
namespace Lo
open Go.RowKit Ai Fi

/-- What an operation does to a table. -/
def mapOp (t : List Int) (x : Op3) : List Int × Int := if x.p = -1 then mapClear t x.l x.n else mapSet t x.l x.n x.p

set_option maxHeartbeats 4000000 in
set_option maxRecDepth 100000 in
theorem fchange_ok (w : World) (m g cap : Nat) (t : List Int) (hF : Flat w m 512 g cap t) (ho : okTab t) (hl : t.length ≤ 512) (x : Op3) :
    Calls Tryz.prog 64 #[.iface 89 (.pointer (some ⟨m, 0, none⟩)), .agg #[.int .i64 x.l, .int .i64 x.n, .int .i64 x.p]] w (FPost w m (mapOp t x)) := by
  obtain ⟨l, n, p⟩ := x
  have HB := Ai.Aside.mk ((Below.refl w.heap.size w).alloc (Nat.le_refl _) (.cells #[.int .i64 l, .int .i64 n, .int .i64 p] 42))
  obtain ⟨s, hs⟩ : ∃ s, s = mapOp t ⟨l, n, p⟩ := ⟨_, rfl⟩
  rw [← hs]
  have HS := Ai.Aside.mk hs
  by_cases hp : p = -1
  · have HC := Ai.Aside.mk (fclear_ok _ m g cap t (hF.below HB.out) ho hl l n)
    subst hp
    rw [show mapClear t l n = s by rw [hs, mapOp]; rfl] at HC
    clear hF ho hl hs
    go_enter Tryz.func64, Tryz.ntmps64
    go_wp2_with (go_at_call 201; go_loud (refine HC.out.mono ?_; rintro e w1 ⟨g', cap', rfl, hmod, hfl⟩; have HM := Ai.Aside.mk hmod; have HFL := Ai.Aside.mk hfl; clear hmod hfl))
    go_ret
    exact ⟨g', cap', rfl, (Mod.of_below HB.out m).trans HM.out, HFL.out⟩
  · have HC := Ai.Aside.mk (fset_ok _ m g cap t (hF.below HB.out) ho hl l n p)
    rw [show mapSet t l n p = s by rw [hs, mapOp, if_neg hp]] at HC
    have hq : (p == -1) = false := by simp [hp]
    clear hF ho hl hs hp
    go_enter Tryz.func64, Tryz.ntmps64
    go_wp2_with (go_at_call 42; go_loud (refine HC.out.mono ?_; rintro e w1 ⟨g', cap', rfl, hmod, hfl⟩; have HM := Ai.Aside.mk hmod; have HFL := Ai.Aside.mk hfl; clear hmod hfl))
    go_ret
    exact ⟨g', cap', rfl, (Mod.of_below HB.out m).trans HM.out, HFL.out⟩

set_option maxHeartbeats 4000000 in
set_option maxRecDepth 100000 in
theorem rchange_ok (w : World) (m t a g : Nat) (A : Ar) (T : Tr) (tb : List Int) (hM : RMap w m t a g tb.length A T) (hT : Twin tb (T.xs.map op3)) (hl : 1 ≤ tb.length ∧ tb.length ≤ 512) (x : Op3) :
    Calls Tryz.prog 64 #[.iface 123 (.pointer (some ⟨m, 0, none⟩)), .agg #[.int .i64 x.l, .int .i64 x.n, .int .i64 x.p]] w (RPost w m t a g tb.length (mapOp tb x)) := by
  obtain ⟨l, n, p⟩ := x
  have HB := Ai.Aside.mk ((Below.refl w.heap.size w).alloc (Nat.le_refl _) (.cells #[.int .i64 l, .int .i64 n, .int .i64 p] 42))
  obtain ⟨s, hs⟩ : ∃ s, s = mapOp tb ⟨l, n, p⟩ := ⟨_, rfl⟩
  rw [← hs]
  have HS := Ai.Aside.mk hs
  by_cases hp : p = -1
  · have HC := Ai.Aside.mk (rclear_ok _ m t a g A T tb (hM.below HB.out) hT hl l n)
    subst hp
    rw [show mapClear tb l n = s by rw [hs, mapOp]; rfl] at HC
    clear hM hT hl hs
    go_enter Tryz.func64, Tryz.ntmps64
    go_wp2_with (go_at_call 208; go_loud (refine HC.out.mono ?_; rintro e w1 ⟨rfl, hmod, hfl⟩; have HM := Ai.Aside.mk hmod; have HFL := Ai.Aside.mk hfl; clear hmod hfl))
    go_ret
    exact ⟨rfl, (ModB.of_below HB.out _).trans HM.out, HFL.out⟩
  · have HC := Ai.Aside.mk (rset_ok _ m t a g A T tb (hM.below HB.out) hT hl l n p)
    rw [show mapSet tb l n p = s by rw [hs, mapOp, if_neg hp]] at HC
    have hq : (p == -1) = false := by simp [hp]
    clear hM hT hl hs hp
    go_enter Tryz.func64, Tryz.ntmps64
    go_wp2_with (go_at_call 214; go_loud (refine HC.out.mono ?_; rintro e w1 ⟨rfl, hmod, hfl⟩; have HM := Ai.Aside.mk hmod; have HFL := Ai.Aside.mk hfl; clear hmod hfl))
    go_ret
    exact ⟨rfl, (ModB.of_below HB.out _).trans HM.out, HFL.out⟩
end Lo
end Go.Proofs.YtjmhkcfdmcjilaaGreat
set_option linter.unusedVariables false
set_option linter.unusedSimpArgs false
namespace Go.Proofs.YtjmhkcfdmcjilaaGreat
namespace Lo
open Go.RowKit Ai Fi

theorem own3 {w : World} {base : Nat} {v : Value} {xs : List Op3} (h : w.ownsRow base 94 3 v xs.length (runV xs)) (hb : ∀ x ∈ xs, inI x.l ∧ inI x.n ∧ inI x.p) : ∃ A cap, v = .slice A xs.length cap ∧ Acts3 w A xs ∧ ∀ b off, A = some ⟨b, off, none⟩ → base ≤ b := by
  have hlt := h.lt
  rcases h.2 with ⟨rfl, h0⟩ | ⟨g, cap, cur, rfl, _⟩
  · have : xs = [] := List.eq_nil_of_length_eq_zero h0
    subst this
    exact ⟨none, 0, rfl, ⟨(fun x hx => by cases hx), (fun h => absurd h (Nat.lt_irrefl 0))⟩, fun b off e => by cases e⟩
  · refine ⟨_, cap, rfl, ⟨hb, fun _ => ⟨g, 0, rfl, (h.lt g rfl).2, fun i x hx => ?_⟩⟩, fun b off e => by cases e; exact (hlt g rfl).1⟩
    have hlt := (List.getElem?_eq_some_iff.1 hx).1
    obtain ⟨k1, k2, k3⟩ := runV_get xs i x hx
    rw [Nat.zero_add, h.cellAt (i * 3) (by omega), h.cellAt (i * 3 + 1) (by omega), h.cellAt (i * 3 + 2) (by omega)]
    exact ⟨k1, k2, k3⟩

/-- The trial's table: N numbers. -/
def Tb (B g N : Nat) (wr : World) : Prop := B ≤ g ∧ g < wr.heap.size ∧ ∃ tt : List Int, tt.length = N ∧ okT tt ∧ wr.ownsRow B 3 1 (.slice (some ⟨g, 0, none⟩) N N) N (intsV tt)

theorem Tb.new {w w' : World} {g N : Nat} (h : w'.ownsRow w.heap.size 3 1 (.slice (some ⟨g, 0, none⟩) N N) N (intsV (List.replicate N (-1)))) : Tb w.heap.size g N w' :=
  ⟨(h.lt g rfl).1, (h.lt g rfl).2, _, List.length_replicate, okT_new N, h⟩
theorem Tb.below {B g N : Nat} {w w' : World} (h : Tb B g N w) (hb : Below w.heap.size w w') : Tb B g N w' := by
  obtain ⟨h1, h2, tt, h3, h4, h5⟩ := h
  exact ⟨h1, Nat.lt_of_lt_of_le h2 hb.size, tt, h3, h4, own_below h5 hb⟩
theorem Tb.alloc {B g N : Nat} {w : World} (h : Tb B g N w) (o : Obj) : Tb B g N (w.alloc o) := h.below ((Below.refl _ _).alloc (Nat.le_refl _) o)
theorem Tb.get {B g N : Nat} {w : World} (h : Tb B g N w) {i : Nat} (hi : i < N) : ∃ v, w.cell? ⟨g, i, none⟩ = some (.int .i64 v) ∧ -1 ≤ v ∧ v ≤ 1049087 ∧ w.frozen? ⟨g, i, none⟩ = false := by
  obtain ⟨h1, h2, tt, h3, h4, h5⟩ := h
  obtain ⟨v, hv⟩ : ∃ v, tt[i]? = some v := ⟨_, List.getElem?_eq_getElem (by omega)⟩
  have hm := h4 v (List.mem_of_getElem? hv)
  exact ⟨v, by rw [h5.cellAt i (by omega), intsV, List.getElem?_map, hv]; rfl, hm.1, hm.2, h5.frozenAt i⟩
theorem Tb.set {B g N : Nat} {w : World} (h : Tb B g N w) (i : Nat) {v : Int} (hv : -1 ≤ v ∧ v ≤ 1049087) : Tb B g N (w.setCell ⟨g, i, none⟩ (.int .i64 v)) := by
  obtain ⟨h1, h2, tt, h3, h4, h5⟩ := h
  refine ⟨h1, by simpa [World.setCell] using h2, tt.set i v, by rw [List.length_set]; exact h3, fun x hx => ?_, ?_⟩
  · rcases List.mem_or_eq_of_mem_set hx with h | h
    · exact h4 x h
    · rw [h]; exact hv
  · have := (h5.stored i (.int .i64 v)).1
    rw [intsV, List.map_set]
    exact this

def At (g k : Nat) : Prop := k = g
theorem modB_at (w : World) (g i : Nat) (u : Value) : ModB (At g) w (w.setCell ⟨g, i, none⟩ u) :=
  ⟨rfl, rfl, rfl, by simp [World.setCell], fun k _ hk => heap_setCell_other w ⟨g, i, none⟩ k u hk⟩

theorem acts_modB {w W : World} {g : Nat} {A : Option Addr} {xs : List Op3} (h : Acts3 w A xs) (hm : ModB (At g) w W) (hg : ∀ b off, A = some ⟨b, off, none⟩ → b ≠ g) : Acts3 W A xs :=
  ⟨h.1, fun h0 => by
    obtain ⟨b, off, h1, h2, h3⟩ := h.2 h0
    refine ⟨b, off, h1, Nat.lt_of_lt_of_le h2 hm.size, fun i x hx => ?_⟩
    obtain ⟨k1, k2, k3⟩ := h3 i x hx
    have hne := hg b off h1
    exact ⟨hm.cell k1 hne, hm.cell k2 hne, hm.cell k3 hne⟩⟩

/-- An operation that a map of N sectors takes. -/
def okOp (N : Nat) (x : Op3) : Bool := decide (1 ≤ x.n ∧ x.n ≤ N ∧ 0 ≤ x.l ∧ x.l ≤ N - x.n ∧ -1 ≤ x.p ∧ x.p ≤ 1048576)
def tryL (N : Nat) (xs : List Op3) : Int := if xs.all (okOp N) then 0 else 1
def applyL (t : List Int) (xs : List Op3) : List Int := xs.foldl (fun t x => (mapOp t x).1) t

theorem mapOp_ok {t : List Int} {x : Op3} (h : okOp t.length x = true) (hl : t.length ≤ 512) (ht : okT t) : (mapOp t x).2 = 0 ∧ (mapOp t x).1.length = t.length ∧ okT (mapOp t x).1 := by
  unfold okOp at h
  simp only [decide_eq_true_eq] at h
  have hr : rightR t.length x.l x.n = true := by unfold rightR; simp only [decide_eq_true_eq]; omega
  unfold mapOp
  split
  · unfold mapClear
    rw [if_pos hr]
    exact ⟨rfl, putTo_length _ _ _ _, okT_put ht _ _ _ fun i hi => by omega⟩
  · unfold mapSet
    rw [if_pos ⟨hr, by omega, by omega⟩]
    exact ⟨rfl, putTo_length _ _ _ _, okT_put ht _ _ _ fun i hi => by omega⟩
end Lo
end Go.Proofs.YtjmhkcfdmcjilaaGreat
