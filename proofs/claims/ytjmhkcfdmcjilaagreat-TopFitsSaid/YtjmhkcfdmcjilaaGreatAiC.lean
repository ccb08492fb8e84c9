/-
  What the reckoner's values and memory stand for: names stand for blocks. The laws of trees, of values, of memory that is written and made.
-/
import Derived.Test.YtjmhkcfdmcjilaaGreatAiB
import Derived.Laws.CopyRow
namespace Go.Proofs.YtjmhkcfdmcjilaaGreat
namespace Ai
open Go.RowKit

/-! ### Trees -/

theorem Tr.get_leaf {α : Type} (a : α) (i : Nat) : (Tr.leaf a).get i = a := by unfold Tr.get; rfl
theorem Tr.get_zero {α : Type} (t : Tr α) : t.get 0 = t.val := by cases t <;> simp [Tr.get, Tr.val]
theorem Tr.get_succ {α : Type} (t : Tr α) (k : Nat) : t.get (k + 1) = cond (Nat.beq (k % 2) 0) (t.left.get (k / 2)) (t.right.get (k / 2)) := by
  cases t with
  | leaf a => simp only [Tr.left, Tr.right, Tr.get_leaf]; cases Nat.beq (k % 2) 0 <;> rfl
  | node a l r => simp only [Tr.get, Tr.left, Tr.right]

theorem Tr.left_node {α : Type} (a : α) (l r : Tr α) : (Tr.node a l r).left = l := rfl
theorem Tr.right_node {α : Type} (a : α) (l r : Tr α) : (Tr.node a l r).right = r := rfl
theorem Tr.val_node {α : Type} (a : α) (l r : Tr α) : (Tr.node a l r).val = a := rfl

theorem Tr.get_set {α : Type} (x : α) : ∀ (d : Nat) (t : Tr α) (i : Nat), i + 1 < 2 ^ d → ∀ j, (Tr.set d t i x).get j = if j = i then x else t.get j
  | 0, t, i, h, j => by simp at h
  | d + 1, t, 0, h, j => by
    cases j with
    | zero => simp [Tr.set, Tr.get]
    | succ k => simp only [Tr.set]; rw [Tr.get_succ, Tr.get_succ]; simp [Tr.left_node, Tr.right_node]
  | d + 1, t, k + 1, h, j => by
    have hk : k / 2 + 1 < 2 ^ d := by rw [Nat.pow_succ] at h; omega
    have ihl := Tr.get_set x d t.left (k / 2) hk
    have ihr := Tr.get_set x d t.right (k / 2) hk
    simp only [Tr.set]
    cases hb : Nat.beq (k % 2) 0 with
    | true =>
      have hb' : k % 2 = 0 := Nat.eq_of_beq_eq_true hb
      simp only [cond_true]
      cases j with
      | zero => simp [Tr.get, Tr.get_zero]
      | succ m =>
        rw [Tr.get_succ, Tr.get_succ]
        simp only [Tr.left_node, Tr.right_node, ihl]
        cases hm : Nat.beq (m % 2) 0 with
        | true =>
          have hm' : m % 2 = 0 := Nat.eq_of_beq_eq_true hm
          simp only [cond_true]
          by_cases he : m / 2 = k / 2
          · have : m + 1 = k + 1 := by omega
            simp [he, this]
          · have h1 : ¬ m + 1 = k + 1 := by omega
            rw [if_neg he, if_neg h1]
        | false =>
          have hm' : ¬ m % 2 = 0 := fun e => by simp [e] at hm
          have h1 : ¬ m + 1 = k + 1 := by omega
          simp only [cond_false]
          rw [if_neg h1]
    | false =>
      have hb' : ¬ k % 2 = 0 := fun e => by simp [e] at hb
      simp only [cond_false]
      cases j with
      | zero => simp [Tr.get, Tr.get_zero]
      | succ m =>
        rw [Tr.get_succ, Tr.get_succ]
        simp only [Tr.left_node, Tr.right_node, ihr]
        cases hm : Nat.beq (m % 2) 0 with
        | true =>
          have hm' : m % 2 = 0 := Nat.eq_of_beq_eq_true hm
          have h1 : ¬ m + 1 = k + 1 := by omega
          simp only [cond_true]
          rw [if_neg h1]
        | false =>
          have hm' : ¬ m % 2 = 0 := fun e => by simp [e] at hm
          simp only [cond_false]
          by_cases he : m / 2 = k / 2
          · have : m + 1 = k + 1 := by omega
            simp [he, this]
          · have h1 : ¬ m + 1 = k + 1 := by omega
            rw [if_neg he, if_neg h1]

theorem Tr.get_set16 {α : Type} (t : Tr α) (i : Nat) (x : α) (h : i < top) (j : Nat) : (Tr.set 16 t i x).get j = if j = i then x else t.get j :=
  Tr.get_set x 16 t i (by simp only [top] at h; omega) j

theorem Tr.get_write : ∀ (l : List S) (t : Tr S) (off : Nat), off + l.length ≤ top → ∀ j, (t.write off l).get j = if off ≤ j then (match l[j - off]? with | some x => x | none => t.get j) else t.get j
  | [], t, off, _, j => by simp [Tr.write]
  | x :: l, t, off, h, j => by
    simp only [List.length_cons] at h
    simp only [Tr.write, fS_eq, Tr.setK_eq]
    rw [Tr.get_write l _ (off + 1) (by omega) j, Tr.get_set16 t off x (by omega)]
    by_cases h1 : off + 1 ≤ j
    · have h2 : off ≤ j := by omega
      have h3 : j - off = (j - (off + 1)) + 1 := by omega
      have h4 : ¬ j = off := by omega
      simp only [h1, h2, if_true, h3, List.getElem?_cons_succ, h4, if_false]
    · by_cases h2 : off ≤ j
      · have h3 : j = off := by omega
        subst h3
        rw [if_neg h1, if_pos h2]
        simp
      · have h4 : ¬ j = off := by omega
        simp [h1, h2, h4]

theorem Tr.length_cells (t : Tr S) : ∀ (k off : Nat), (t.cells off k).length = k
  | 0, off => by simp [Tr.cells]
  | k + 1, off => by simp [Tr.cells, Tr.length_cells t k]

theorem Tr.get_cells (t : Tr S) : ∀ (k off j : Nat), (t.cells off k)[j]? = if j < k then some (t.get (off + j)) else none
  | 0, off, j => by simp [Tr.cells]
  | k + 1, off, 0 => by simp [Tr.cells]
  | k + 1, off, j + 1 => by
    simp only [Tr.cells, List.getElem?_cons_succ, Tr.get_cells t k (off + 1) j]
    have : off + 1 + j = off + (j + 1) := by omega
    simp [this]

/-! ### Values -/

abbrev Nu := Nat → Option (Nat × Nat)
def Nu.le (ν ν' : Nu) : Prop := ∀ n y, ν n = some y → ν' n = some y
theorem Nu.le_refl (ν : Nu) : ν.le ν := fun _ _ h => h
theorem Nu.le_trans {a b c : Nu} (h : a.le b) (k : b.le c) : a.le c := fun n y e => k n y (h n y e)

def cvC (ν : Nu) : C → Option Value
  | .p n off => match ν n with
    | some y => some (.pointer (some ⟨y.1, off, none⟩))
    | none => none
  | .i k x => some (.int k x)

def cvCs (ν : Nu) : List C → Option (List Value)
  | [] => some []
  | c :: l => match cvC ν c, cvCs ν l with
    | some v, some vs => some (v :: vs)
    | _, _ => none

def cvS (ν : Nu) : S → Option Value
  | .b x => some (.bool x)
  | .i k x => some (.int k x)
  | .s l => some (.string ⟨l.toArray⟩)
  | .p n off => match ν n with
    | some y => some (.pointer (some ⟨y.1, off, none⟩))
    | none => none
  | .np => some (.pointer none)
  | .sl n off len c o => match ν n with
    | some y => some (.slice (some ⟨y.1, off, none⟩) len (cond o (c + y.2) c))
    | none => none
  | .se n off d => match ν n with
    | some y => some (if y.2 = 0 then .slice (some ⟨y.1, off, none⟩) 0 0 else .slice (some ((⟨y.1, off, none⟩ : Addr).add d)) 0 y.2)
    | none => none
  | .nsl => some (.slice none 0 0)
  | .m n => match ν n with
    | some y => some (.map (some y.1))
    | none => none
  | .nm => some (.map none)
  | .f g cs => match cvCs ν cs with
    | some l => some (.func (.func g) #[] l.toArray)
    | none => none
  | .nf => some .nilFunc
  | .fc t c => match cvC ν c with
    | some v => some (.iface t v)
    | none => none
  | .ni => some .nilIface
  | .any => none

def cvL (ν : Nu) : List S → Option (List Value)
  | [] => some []
  | x :: l => match cvS ν x, cvL ν l with
    | some v, some vs => some (v :: vs)
    | _, _ => none

def cvW (ν : Nu) : W → Option Value
  | .s x => cvS ν x
  | .a l => match cvL ν l with
    | some vs => some (.agg vs.toArray)
    | none => none

def cvWs (ν : Nu) : List W → Option (List Value)
  | [] => some []
  | x :: l => match cvW ν x, cvWs ν l with
    | some v, some vs => some (v :: vs)
    | _, _ => none

def cvV (ν : Nu) : V → Option Value
  | .w x => cvW ν x
  | .t l => match cvWs ν l with
    | some vs => some (.tuple vs.toArray)
    | none => none

theorem cvC_mono {ν ν' : Nu} (h : ν.le ν') {x : C} {v : Value} (e : cvC ν x = some v) : cvC ν' x = some v := by
  cases x with
  | p n off =>
    simp only [cvC] at e ⊢
    cases hn : ν n with
    | none => simp [hn] at e
    | some y => rw [h n y hn]; simpa [hn] using e
  | i k x => exact e

theorem cvCs_mono {ν ν' : Nu} (h : ν.le ν') : ∀ {l : List C} {vs : List Value}, cvCs ν l = some vs → cvCs ν' l = some vs
  | [], _, e => e
  | c :: l, vs, e => by
    simp only [cvCs] at e ⊢
    cases h1 : cvC ν c with
    | none => simp [h1] at e
    | some v =>
      cases h2 : cvCs ν l with
      | none => simp [h1, h2] at e
      | some ws => rw [cvC_mono h h1, cvCs_mono h h2]; simpa [h1, h2] using e

theorem cvS_mono {ν ν' : Nu} (h : ν.le ν') {x : S} {v : Value} (e : cvS ν x = some v) : cvS ν' x = some v := by
  cases x <;> simp only [cvS] at e ⊢ <;> first
    | exact e
    | (rename_i n _; cases hn : ν n with
       | none => simp [hn] at e
       | some y => rw [h n y hn]; simpa [hn] using e)
    | (rename_i n _ _; cases hn : ν n with
       | none => simp [hn] at e
       | some y => rw [h n y hn]; simpa [hn] using e)
    | (rename_i n _ _ _ _; cases hn : ν n with
       | none => simp [hn] at e
       | some y => rw [h n y hn]; simpa [hn] using e)
    | (rename_i n; cases hn : ν n with
       | none => simp [hn] at e
       | some y => rw [h n y hn]; simpa [hn] using e)
    | (rename_i g cs; cases hn : cvCs ν cs with
       | none => simp [hn] at e
       | some y => rw [cvCs_mono h hn]; simpa [hn] using e)
    | (rename_i t c; cases hn : cvC ν c with
       | none => simp [hn] at e
       | some y => rw [cvC_mono h hn]; simpa [hn] using e)

theorem cvL_mono {ν ν' : Nu} (h : ν.le ν') : ∀ {l : List S} {vs : List Value}, cvL ν l = some vs → cvL ν' l = some vs
  | [], _, e => e
  | c :: l, vs, e => by
    simp only [cvL] at e ⊢
    cases h1 : cvS ν c with
    | none => simp [h1] at e
    | some v =>
      cases h2 : cvL ν l with
      | none => simp [h1, h2] at e
      | some ws => rw [cvS_mono h h1, cvL_mono h h2]; simpa [h1, h2] using e

theorem cvW_mono {ν ν' : Nu} (h : ν.le ν') {x : W} {v : Value} (e : cvW ν x = some v) : cvW ν' x = some v := by
  cases x with
  | s x => exact cvS_mono h e
  | a l =>
    simp only [cvW] at e ⊢
    cases h1 : cvL ν l with
    | none => simp [h1] at e
    | some v => rw [cvL_mono h h1]; simpa [h1] using e

theorem cvWs_mono {ν ν' : Nu} (h : ν.le ν') : ∀ {l : List W} {vs : List Value}, cvWs ν l = some vs → cvWs ν' l = some vs
  | [], _, e => e
  | c :: l, vs, e => by
    simp only [cvWs] at e ⊢
    cases h1 : cvW ν c with
    | none => simp [h1] at e
    | some v =>
      cases h2 : cvWs ν l with
      | none => simp [h1, h2] at e
      | some ws => rw [cvW_mono h h1, cvWs_mono h h2]; simpa [h1, h2] using e

theorem cvV_mono {ν ν' : Nu} (h : ν.le ν') {x : V} {v : Value} (e : cvV ν x = some v) : cvV ν' x = some v := by
  cases x with
  | w x => exact cvW_mono h e
  | t l =>
    simp only [cvV] at e ⊢
    cases h1 : cvWs ν l with
    | none => simp [h1] at e
    | some v => rw [cvWs_mono h h1]; simpa [h1] using e

theorem cvS_one {ν : Nu} {x : S} {v : Value} (e : cvS ν x = some v) : v.oneCell' = true := by
  cases x <;> simp only [cvS] at e <;> (try (split at e)) <;> (try (simp at e; done)) <;> (simp only [Option.some.injEq] at e; subst e; try rfl)
  split <;> rfl

theorem cvL_cons {ν : Nu} {x : S} {l : List S} {vs : List Value} (e : cvL ν (x :: l) = some vs) : ∃ v ws, cvS ν x = some v ∧ cvL ν l = some ws ∧ vs = v :: ws := by
  simp only [cvL] at e
  cases h1 : cvS ν x with
  | none => simp [h1] at e
  | some v =>
    cases h2 : cvL ν l with
    | none => simp [h1, h2] at e
    | some ws => exact ⟨v, ws, rfl, rfl, by simpa [h1, h2] using e.symm⟩

theorem cvL_mk {ν : Nu} {x : S} {l : List S} {v : Value} {ws : List Value} (h1 : cvS ν x = some v) (h2 : cvL ν l = some ws) : cvL ν (x :: l) = some (v :: ws) := by
  simp [cvL, h1, h2]

theorem cvL_length {ν : Nu} : ∀ {l : List S} {vs : List Value}, cvL ν l = some vs → vs.length = l.length
  | [], vs, e => by simp only [cvL, Option.some.injEq] at e; subst e; rfl
  | x :: l, vs, e => by
    obtain ⟨v, ws, _, h2, rfl⟩ := cvL_cons e
    simp [cvL_length h2]

theorem cvL_one {ν : Nu} : ∀ {l : List S} {vs : List Value}, cvL ν l = some vs → ∀ v ∈ vs, v.oneCell' = true
  | [], vs, e => by simp only [cvL, Option.some.injEq] at e; subst e; simp
  | x :: l, vs, e => by
    obtain ⟨v, ws, h1, h2, rfl⟩ := cvL_cons e
    intro u hu
    rcases List.mem_cons.1 hu with rfl | hu
    · exact cvS_one h1
    · exact cvL_one h2 u hu

theorem cvL_get {ν : Nu} : ∀ {l : List S} {vs : List Value}, cvL ν l = some vs → ∀ i : Nat, vs[i]? = (l[i]?).bind (cvS ν)
  | [], vs, e, i => by simp only [cvL, Option.some.injEq] at e; subst e; simp
  | x :: l, vs, e, 0 => by
    obtain ⟨v, ws, h1, h2, rfl⟩ := cvL_cons e
    simp [h1]
  | x :: l, vs, e, i + 1 => by
    obtain ⟨v, ws, h1, h2, rfl⟩ := cvL_cons e
    simpa using cvL_get h2 i

theorem cvL_append {ν : Nu} : ∀ {l m : List S} {vs ws : List Value}, cvL ν l = some vs → cvL ν m = some ws → cvL ν (l ++ m) = some (vs ++ ws)
  | [], m, vs, ws, e, e' => by simp only [cvL, Option.some.injEq] at e; subst e; simpa using e'
  | x :: l, m, vs, ws, e, e' => by
    obtain ⟨v, us, h1, h2, rfl⟩ := cvL_cons e
    exact cvL_mk h1 (cvL_append h2 e')

theorem cvL_take {ν : Nu} : ∀ (n : Nat) {l : List S} {vs : List Value}, cvL ν l = some vs → cvL ν (l.take n) = some (vs.take n)
  | 0, l, vs, e => by simp [cvL]
  | n + 1, [], vs, e => by simp only [cvL, Option.some.injEq] at e; subst e; simp [cvL]
  | n + 1, x :: l, vs, e => by
    obtain ⟨v, us, h1, h2, rfl⟩ := cvL_cons e
    exact cvL_mk h1 (cvL_take n h2)

theorem cvL_drop {ν : Nu} : ∀ (n : Nat) {l : List S} {vs : List Value}, cvL ν l = some vs → cvL ν (l.drop n) = some (vs.drop n)
  | 0, l, vs, e => by simpa using e
  | n + 1, [], vs, e => by simp only [cvL, Option.some.injEq] at e; subst e; simp [cvL]
  | n + 1, x :: l, vs, e => by
    obtain ⟨v, us, h1, h2, rfl⟩ := cvL_cons e
    exact cvL_drop n h2

theorem cvL_of {ν : Nu} : ∀ (l : List S), (∀ (i : Nat) (x : S), l[i]? = some x → ∃ v, cvS ν x = some v) → ∃ vs, cvL ν l = some vs
  | [], _ => ⟨[], rfl⟩
  | x :: l, h => by
    obtain ⟨v, hv⟩ := h 0 x rfl
    obtain ⟨vs, hvs⟩ := cvL_of l (fun i y hy => h (i + 1) y hy)
    exact ⟨v :: vs, cvL_mk hv hvs⟩

theorem cvL_replicate {ν : Nu} {zs : List S} {vs : List Value} (h : cvL ν zs = some vs) : ∀ n, cvL ν ((List.replicate n zs).flatten) = some ((List.replicate n vs).flatten)
  | 0 => rfl
  | n + 1 => by simpa [List.replicate_succ] using cvL_append h (cvL_replicate h n)

theorem absS_cv {v : Value} {x : S} (h : absS v = some x) (ν : Nu) : cvS ν x = some v := by
  unfold absS at h
  split at h <;> simp only [Option.some.injEq, reduceCtorEq] at h <;> subst h <;> simp [cvS]

theorem absL_cv : ∀ {l : List Value} {xs : List S}, absL l = some xs → ∀ ν, cvL ν xs = some l
  | [], xs, h, ν => by simp only [absL, Option.some.injEq] at h; subst h; rfl
  | v :: l, xs, h, ν => by
    simp only [absL] at h
    cases h1 : absS v with
    | none => simp [h1] at h
    | some x =>
      cases h2 : absL l with
      | none => simp [h1, h2] at h
      | some ys =>
        simp only [h1, h2, Option.some.injEq] at h
        subst h
        exact cvL_mk (absS_cv h1 ν) (absL_cv h2 ν)

theorem absV_cv {v : Value} {x : V} (h : absV v = some x) (ν : Nu) : cvV ν x = some v := by
  unfold absV at h
  split at h
  · rename_i c
    cases h1 : absL c.toList with
    | none => simp [h1] at h
    | some l =>
      simp only [h1, Option.map_some, Option.some.injEq] at h
      subst h
      simp [cvV, cvW, absL_cv h1 ν]
  · cases h1 : absS v with
    | none => simp [h1] at h
    | some y =>
      simp only [h1, Option.map_some, Option.some.injEq] at h
      subst h
      exact absS_cv h1 ν

end Ai
end Go.Proofs.YtjmhkcfdmcjilaaGreat
