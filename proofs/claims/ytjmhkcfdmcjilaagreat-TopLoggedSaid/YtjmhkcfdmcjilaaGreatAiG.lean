/-
  Slices, structs that are built, closures; and all operations that look at no memory in one word: 'pure_ok'.
-/
import Derived.Test.YtjmhkcfdmcjilaaGreatAiB
import Derived.Laws.CopyRow
/- Operations that look at no memory: what the reckoner says of them is so in every world. -/
/- What the reckoner's values and memory stand for: names stand for blocks. The laws of trees, of values, of memory that is written and made. -/
namespace Go.Proofs.YtjmhkcfdmcjilaaGreat
namespace Ai
open Go.RowKit

/-! ### Trees -/

theorem Tr.get_leaf {α : Type} (a : α) (i : Nat) : (Tr.leaf a).get i = a := by unfold Tr.get; rfl
theorem Tr.get_zero {α : Type} (t : Tr α) : t.get 0 = t.val := by cases t <;> simp [Tr.get, Tr.val]
theorem Tr.get_succ {α : Type} (t : Tr α) (k : Nat) : t.get (k + 1) = cond (Nat.beq (k % 2) 0) (t.left.get (k / 2)) (t.right.get (k / 2)) := by
  cases t with
  | leaf a => simp only [Tr.left, Tr.right, Tr.get_leaf]; cases Nat.beq (k % 2) 0 <;> rfl
  | node a l r => simp only [Tr.get, Tr.left, Tr.right]

theorem Tr.left_node {α : Type} (a : α) (l r : Tr α) : (Tr.node a l r).left = l := rfl
theorem Tr.right_node {α : Type} (a : α) (l r : Tr α) : (Tr.node a l r).right = r := rfl
theorem Tr.val_node {α : Type} (a : α) (l r : Tr α) : (Tr.node a l r).val = a := rfl

theorem Tr.get_set {α : Type} (x : α) : ∀ (d : Nat) (t : Tr α) (i : Nat), i + 1 < 2 ^ d → ∀ j, (Tr.set d t i x).get j = if j = i then x else t.get j
  | 0, t, i, h, j => by simp at h
  | d + 1, t, 0, h, j => by
    cases j with
    | zero => simp [Tr.set, Tr.get]
    | succ k => simp only [Tr.set]; rw [Tr.get_succ, Tr.get_succ]; simp [Tr.left_node, Tr.right_node]
  | d + 1, t, k + 1, h, j => by
    have hk : k / 2 + 1 < 2 ^ d := by rw [Nat.pow_succ] at h; omega
    have ihl := Tr.get_set x d t.left (k / 2) hk
    have ihr := Tr.get_set x d t.right (k / 2) hk
    simp only [Tr.set]
    cases hb : Nat.beq (k % 2) 0 with
    | true =>
      have hb' : k % 2 = 0 := Nat.eq_of_beq_eq_true hb
      simp only [cond_true]
      cases j with
      | zero => simp [Tr.get, Tr.get_zero]
      | succ m =>
        rw [Tr.get_succ, Tr.get_succ]
        simp only [Tr.left_node, Tr.right_node, ihl]
        cases hm : Nat.beq (m % 2) 0 with
        | true =>
          have hm' : m % 2 = 0 := Nat.eq_of_beq_eq_true hm
          simp only [cond_true]
          by_cases he : m / 2 = k / 2
          · have : m + 1 = k + 1 := by omega
            simp [he, this]
          · have h1 : ¬ m + 1 = k + 1 := by omega
            rw [if_neg he, if_neg h1]
        | false =>
          have hm' : ¬ m % 2 = 0 := fun e => by simp [e] at hm
          have h1 : ¬ m + 1 = k + 1 := by omega
          simp only [cond_false]
          rw [if_neg h1]
    | false =>
      have hb' : ¬ k % 2 = 0 := fun e => by simp [e] at hb
      simp only [cond_false]
      cases j with
      | zero => simp [Tr.get, Tr.get_zero]
      | succ m =>
        rw [Tr.get_succ, Tr.get_succ]
        simp only [Tr.left_node, Tr.right_node, ihr]
        cases hm : Nat.beq (m % 2) 0 with
        | true =>
          have hm' : m % 2 = 0 := Nat.eq_of_beq_eq_true hm
          have h1 : ¬ m + 1 = k + 1 := by omega
          simp only [cond_true]
          rw [if_neg h1]
        | false =>
          have hm' : ¬ m % 2 = 0 := fun e => by simp [e] at hm
          simp only [cond_false]
          by_cases he : m / 2 = k / 2
          · have : m + 1 = k + 1 := by omega
            simp [he, this]
          · have h1 : ¬ m + 1 = k + 1 := by omega
            rw [if_neg he, if_neg h1]

theorem Tr.get_set16 {α : Type} (t : Tr α) (i : Nat) (x : α) (h : i < top) (j : Nat) : (Tr.set 16 t i x).get j = if j = i then x else t.get j :=
  Tr.get_set x 16 t i (by simp only [top] at h; omega) j

theorem Tr.get_write : ∀ (l : List S) (t : Tr S) (off : Nat), off + l.length ≤ top → ∀ j, (t.write off l).get j = if off ≤ j then (match l[j - off]? with | some x => x | none => t.get j) else t.get j
  | [], t, off, _, j => by simp [Tr.write]
  | x :: l, t, off, h, j => by
    simp only [List.length_cons] at h
    simp only [Tr.write, fS_eq, Tr.setK_eq]
    rw [Tr.get_write l _ (off + 1) (by omega) j, Tr.get_set16 t off x (by omega)]
    by_cases h1 : off + 1 ≤ j
    · have h2 : off ≤ j := by omega
      have h3 : j - off = (j - (off + 1)) + 1 := by omega
      have h4 : ¬ j = off := by omega
      simp only [h1, h2, if_true, h3, List.getElem?_cons_succ, h4, if_false]
    · by_cases h2 : off ≤ j
      · have h3 : j = off := by omega
        subst h3
        rw [if_neg h1, if_pos h2]
        simp
      · have h4 : ¬ j = off := by omega
        simp [h1, h2, h4]

theorem Tr.length_cells (t : Tr S) : ∀ (k off : Nat), (t.cells off k).length = k
  | 0, off => by simp [Tr.cells]
  | k + 1, off => by simp [Tr.cells, Tr.length_cells t k]

theorem Tr.get_cells (t : Tr S) : ∀ (k off j : Nat), (t.cells off k)[j]? = if j < k then some (t.get (off + j)) else none
  | 0, off, j => by simp [Tr.cells]
  | k + 1, off, 0 => by simp [Tr.cells]
  | k + 1, off, j + 1 => by
    simp only [Tr.cells, List.getElem?_cons_succ, Tr.get_cells t k (off + 1) j]
    have : off + 1 + j = off + (j + 1) := by omega
    simp [this]

/-! ### Values -/

abbrev Nu := Nat → Option (Nat × Nat)
def Nu.le (ν ν' : Nu) : Prop := ∀ n y, ν n = some y → ν' n = some y
theorem Nu.le_refl (ν : Nu) : ν.le ν := fun _ _ h => h
theorem Nu.le_trans {a b c : Nu} (h : a.le b) (k : b.le c) : a.le c := fun n y e => k n y (h n y e)

def cvC (ν : Nu) : C → Option Value
  | .p n off => match ν n with
    | some y => some (.pointer (some ⟨y.1, off, none⟩))
    | none => none
  | .i k x => some (.int k x)

def cvCs (ν : Nu) : List C → Option (List Value)
  | [] => some []
  | c :: l => match cvC ν c, cvCs ν l with
    | some v, some vs => some (v :: vs)
    | _, _ => none

def cvS (ν : Nu) : S → Option Value
  | .b x => some (.bool x)
  | .i k x => some (.int k x)
  | .s l => some (.string ⟨l.toArray⟩)
  | .p n off => match ν n with
    | some y => some (.pointer (some ⟨y.1, off, none⟩))
    | none => none
  | .np => some (.pointer none)
  | .sl n off len c o => match ν n with
    | some y => some (.slice (some ⟨y.1, off, none⟩) len (cond o (c + y.2) c))
    | none => none
  | .se n off d => match ν n with
    | some y => some (if y.2 = 0 then .slice (some ⟨y.1, off, none⟩) 0 0 else .slice (some ((⟨y.1, off, none⟩ : Addr).add d)) 0 y.2)
    | none => none
  | .nsl => some (.slice none 0 0)
  | .m n => match ν n with
    | some y => some (.map (some y.1))
    | none => none
  | .nm => some (.map none)
  | .f g cs => match cvCs ν cs with
    | some l => some (.func (.func g) #[] l.toArray)
    | none => none
  | .nf => some .nilFunc
  | .fc t c => match cvC ν c with
    | some v => some (.iface t v)
    | none => none
  | .ni => some .nilIface
  | .any => none

def cvL (ν : Nu) : List S → Option (List Value)
  | [] => some []
  | x :: l => match cvS ν x, cvL ν l with
    | some v, some vs => some (v :: vs)
    | _, _ => none

def cvW (ν : Nu) : W → Option Value
  | .s x => cvS ν x
  | .a l => match cvL ν l with
    | some vs => some (.agg vs.toArray)
    | none => none

def cvWs (ν : Nu) : List W → Option (List Value)
  | [] => some []
  | x :: l => match cvW ν x, cvWs ν l with
    | some v, some vs => some (v :: vs)
    | _, _ => none

def cvV (ν : Nu) : V → Option Value
  | .w x => cvW ν x
  | .t l => match cvWs ν l with
    | some vs => some (.tuple vs.toArray)
    | none => none

theorem cvC_mono {ν ν' : Nu} (h : ν.le ν') {x : C} {v : Value} (e : cvC ν x = some v) : cvC ν' x = some v := by
  cases x with
  | p n off =>
    simp only [cvC] at e ⊢
    cases hn : ν n with
    | none => simp [hn] at e
    | some y => rw [h n y hn]; simpa [hn] using e
  | i k x => exact e

theorem cvCs_mono {ν ν' : Nu} (h : ν.le ν') : ∀ {l : List C} {vs : List Value}, cvCs ν l = some vs → cvCs ν' l = some vs
  | [], _, e => e
  | c :: l, vs, e => by
    simp only [cvCs] at e ⊢
    cases h1 : cvC ν c with
    | none => simp [h1] at e
    | some v =>
      cases h2 : cvCs ν l with
      | none => simp [h1, h2] at e
      | some ws => rw [cvC_mono h h1, cvCs_mono h h2]; simpa [h1, h2] using e

theorem cvS_mono {ν ν' : Nu} (h : ν.le ν') {x : S} {v : Value} (e : cvS ν x = some v) : cvS ν' x = some v := by
  cases x <;> simp only [cvS] at e ⊢ <;> first
    | exact e
    | (rename_i n _; cases hn : ν n with
       | none => simp [hn] at e
       | some y => rw [h n y hn]; simpa [hn] using e)
    | (rename_i n _ _; cases hn : ν n with
       | none => simp [hn] at e
       | some y => rw [h n y hn]; simpa [hn] using e)
    | (rename_i n _ _ _ _; cases hn : ν n with
       | none => simp [hn] at e
       | some y => rw [h n y hn]; simpa [hn] using e)
    | (rename_i n; cases hn : ν n with
       | none => simp [hn] at e
       | some y => rw [h n y hn]; simpa [hn] using e)
    | (rename_i g cs; cases hn : cvCs ν cs with
       | none => simp [hn] at e
       | some y => rw [cvCs_mono h hn]; simpa [hn] using e)
    | (rename_i t c; cases hn : cvC ν c with
       | none => simp [hn] at e
       | some y => rw [cvC_mono h hn]; simpa [hn] using e)

theorem cvL_mono {ν ν' : Nu} (h : ν.le ν') : ∀ {l : List S} {vs : List Value}, cvL ν l = some vs → cvL ν' l = some vs
  | [], _, e => e
  | c :: l, vs, e => by
    simp only [cvL] at e ⊢
    cases h1 : cvS ν c with
    | none => simp [h1] at e
    | some v =>
      cases h2 : cvL ν l with
      | none => simp [h1, h2] at e
      | some ws => rw [cvS_mono h h1, cvL_mono h h2]; simpa [h1, h2] using e

theorem cvW_mono {ν ν' : Nu} (h : ν.le ν') {x : W} {v : Value} (e : cvW ν x = some v) : cvW ν' x = some v := by
  cases x with
  | s x => exact cvS_mono h e
  | a l =>
    simp only [cvW] at e ⊢
    cases h1 : cvL ν l with
    | none => simp [h1] at e
    | some v => rw [cvL_mono h h1]; simpa [h1] using e

theorem cvWs_mono {ν ν' : Nu} (h : ν.le ν') : ∀ {l : List W} {vs : List Value}, cvWs ν l = some vs → cvWs ν' l = some vs
  | [], _, e => e
  | c :: l, vs, e => by
    simp only [cvWs] at e ⊢
    cases h1 : cvW ν c with
    | none => simp [h1] at e
    | some v =>
      cases h2 : cvWs ν l with
      | none => simp [h1, h2] at e
      | some ws => rw [cvW_mono h h1, cvWs_mono h h2]; simpa [h1, h2] using e

theorem cvV_mono {ν ν' : Nu} (h : ν.le ν') {x : V} {v : Value} (e : cvV ν x = some v) : cvV ν' x = some v := by
  cases x with
  | w x => exact cvW_mono h e
  | t l =>
    simp only [cvV] at e ⊢
    cases h1 : cvWs ν l with
    | none => simp [h1] at e
    | some v => rw [cvWs_mono h h1]; simpa [h1] using e

theorem cvS_one {ν : Nu} {x : S} {v : Value} (e : cvS ν x = some v) : v.oneCell' = true := by
  cases x <;> simp only [cvS] at e <;> (try (split at e)) <;> (try (simp at e; done)) <;> (simp only [Option.some.injEq] at e; subst e; try rfl)
  split <;> rfl

theorem cvL_cons {ν : Nu} {x : S} {l : List S} {vs : List Value} (e : cvL ν (x :: l) = some vs) : ∃ v ws, cvS ν x = some v ∧ cvL ν l = some ws ∧ vs = v :: ws := by
  simp only [cvL] at e
  cases h1 : cvS ν x with
  | none => simp [h1] at e
  | some v =>
    cases h2 : cvL ν l with
    | none => simp [h1, h2] at e
    | some ws => exact ⟨v, ws, rfl, rfl, by simpa [h1, h2] using e.symm⟩

theorem cvL_mk {ν : Nu} {x : S} {l : List S} {v : Value} {ws : List Value} (h1 : cvS ν x = some v) (h2 : cvL ν l = some ws) : cvL ν (x :: l) = some (v :: ws) := by
  simp [cvL, h1, h2]

theorem cvL_length {ν : Nu} : ∀ {l : List S} {vs : List Value}, cvL ν l = some vs → vs.length = l.length
  | [], vs, e => by simp only [cvL, Option.some.injEq] at e; subst e; rfl
  | x :: l, vs, e => by
    obtain ⟨v, ws, _, h2, rfl⟩ := cvL_cons e
    simp [cvL_length h2]

theorem cvL_one {ν : Nu} : ∀ {l : List S} {vs : List Value}, cvL ν l = some vs → ∀ v ∈ vs, v.oneCell' = true
  | [], vs, e => by simp only [cvL, Option.some.injEq] at e; subst e; simp
  | x :: l, vs, e => by
    obtain ⟨v, ws, h1, h2, rfl⟩ := cvL_cons e
    intro u hu
    rcases List.mem_cons.1 hu with rfl | hu
    · exact cvS_one h1
    · exact cvL_one h2 u hu

theorem cvL_get {ν : Nu} : ∀ {l : List S} {vs : List Value}, cvL ν l = some vs → ∀ i : Nat, vs[i]? = (l[i]?).bind (cvS ν)
  | [], vs, e, i => by simp only [cvL, Option.some.injEq] at e; subst e; simp
  | x :: l, vs, e, 0 => by
    obtain ⟨v, ws, h1, h2, rfl⟩ := cvL_cons e
    simp [h1]
  | x :: l, vs, e, i + 1 => by
    obtain ⟨v, ws, h1, h2, rfl⟩ := cvL_cons e
    simpa using cvL_get h2 i

theorem cvL_append {ν : Nu} : ∀ {l m : List S} {vs ws : List Value}, cvL ν l = some vs → cvL ν m = some ws → cvL ν (l ++ m) = some (vs ++ ws)
  | [], m, vs, ws, e, e' => by simp only [cvL, Option.some.injEq] at e; subst e; simpa using e'
  | x :: l, m, vs, ws, e, e' => by
    obtain ⟨v, us, h1, h2, rfl⟩ := cvL_cons e
    exact cvL_mk h1 (cvL_append h2 e')

theorem cvL_take {ν : Nu} : ∀ (n : Nat) {l : List S} {vs : List Value}, cvL ν l = some vs → cvL ν (l.take n) = some (vs.take n)
  | 0, l, vs, e => by simp [cvL]
  | n + 1, [], vs, e => by simp only [cvL, Option.some.injEq] at e; subst e; simp [cvL]
  | n + 1, x :: l, vs, e => by
    obtain ⟨v, us, h1, h2, rfl⟩ := cvL_cons e
    exact cvL_mk h1 (cvL_take n h2)

theorem cvL_drop {ν : Nu} : ∀ (n : Nat) {l : List S} {vs : List Value}, cvL ν l = some vs → cvL ν (l.drop n) = some (vs.drop n)
  | 0, l, vs, e => by simpa using e
  | n + 1, [], vs, e => by simp only [cvL, Option.some.injEq] at e; subst e; simp [cvL]
  | n + 1, x :: l, vs, e => by
    obtain ⟨v, us, h1, h2, rfl⟩ := cvL_cons e
    exact cvL_drop n h2

theorem cvL_of {ν : Nu} : ∀ (l : List S), (∀ (i : Nat) (x : S), l[i]? = some x → ∃ v, cvS ν x = some v) → ∃ vs, cvL ν l = some vs
  | [], _ => ⟨[], rfl⟩
  | x :: l, h => by
    obtain ⟨v, hv⟩ := h 0 x rfl
    obtain ⟨vs, hvs⟩ := cvL_of l (fun i y hy => h (i + 1) y hy)
    exact ⟨v :: vs, cvL_mk hv hvs⟩

theorem cvL_replicate {ν : Nu} {zs : List S} {vs : List Value} (h : cvL ν zs = some vs) : ∀ n, cvL ν ((List.replicate n zs).flatten) = some ((List.replicate n vs).flatten)
  | 0 => rfl
  | n + 1 => by simpa [List.replicate_succ] using cvL_append h (cvL_replicate h n)

theorem absS_cv {v : Value} {x : S} (h : absS v = some x) (ν : Nu) : cvS ν x = some v := by
  unfold absS at h
  split at h <;> simp only [Option.some.injEq, reduceCtorEq] at h <;> subst h <;> simp [cvS]

theorem absL_cv : ∀ {l : List Value} {xs : List S}, absL l = some xs → ∀ ν, cvL ν xs = some l
  | [], xs, h, ν => by simp only [absL, Option.some.injEq] at h; subst h; rfl
  | v :: l, xs, h, ν => by
    simp only [absL] at h
    cases h1 : absS v with
    | none => simp [h1] at h
    | some x =>
      cases h2 : absL l with
      | none => simp [h1, h2] at h
      | some ys =>
        simp only [h1, h2, Option.some.injEq] at h
        subst h
        exact cvL_mk (absS_cv h1 ν) (absL_cv h2 ν)

theorem absV_cv {v : Value} {x : V} (h : absV v = some x) (ν : Nu) : cvV ν x = some v := by
  unfold absV at h
  split at h
  · rename_i c
    cases h1 : absL c.toList with
    | none => simp [h1] at h
    | some l =>
      simp only [h1, Option.map_some, Option.some.injEq] at h
      subst h
      simp [cvV, cvW, absL_cv h1 ν]
  · cases h1 : absS v with
    | none => simp [h1] at h
    | some y =>
      simp only [h1, Option.map_some, Option.some.injEq] at h
      subst h
      exact absS_cv h1 ν

end Ai
end Go.Proofs.YtjmhkcfdmcjilaaGreat
/- The reckoner's memory against a world: 'Ga'. Below the base nothing turns. -/
namespace Go.Proofs.YtjmhkcfdmcjilaaGreat
namespace Ai
open Go.RowKit

def cvE (ν : Nu) (e : W × W × Nat) : Option MapEntry :=
  match cvW ν e.1, cvW ν e.2.1 with
  | some k, some v => some ⟨k, v, e.2.2⟩
  | _, _ => none

def cvEs (ν : Nu) : List (W × W × Nat) → Option (List MapEntry)
  | [] => some []
  | e :: l => match cvE ν e, cvEs ν l with
    | some x, some xs => some (x :: xs)
    | _, _ => none

theorem cvE_mono {ν ν' : Nu} (h : ν.le ν') {e : W × W × Nat} {x : MapEntry} (hx : cvE ν e = some x) : cvE ν' e = some x := by
  simp only [cvE] at hx ⊢
  cases h1 : cvW ν e.1 with
  | none => simp [h1] at hx
  | some k =>
    cases h2 : cvW ν e.2.1 with
    | none => simp [h1, h2] at hx
    | some v => rw [cvW_mono h h1, cvW_mono h h2]; simpa [h1, h2] using hx

theorem cvEs_cons {ν : Nu} {e : W × W × Nat} {l : List (W × W × Nat)} {xs : List MapEntry} (h : cvEs ν (e :: l) = some xs) :
    ∃ x ys, cvE ν e = some x ∧ cvEs ν l = some ys ∧ xs = x :: ys := by
  simp only [cvEs] at h
  cases h1 : cvE ν e with
  | none => simp [h1] at h
  | some x =>
    cases h2 : cvEs ν l with
    | none => simp [h1, h2] at h
    | some ys => exact ⟨x, ys, rfl, rfl, by simpa [h1, h2] using h.symm⟩

theorem cvEs_mk {ν : Nu} {e : W × W × Nat} {l : List (W × W × Nat)} {x : MapEntry} {ys : List MapEntry} (h1 : cvE ν e = some x) (h2 : cvEs ν l = some ys) :
    cvEs ν (e :: l) = some (x :: ys) := by simp [cvEs, h1, h2]

theorem cvEs_mono {ν ν' : Nu} (h : ν.le ν') : ∀ {l : List (W × W × Nat)} {xs : List MapEntry}, cvEs ν l = some xs → cvEs ν' l = some xs
  | [], _, e => e
  | e :: l, xs, hx => by
    obtain ⟨x, ys, h1, h2, rfl⟩ := cvEs_cons hx
    exact cvEs_mk (cvE_mono h h1) (cvEs_mono h h2)

theorem cvEs_append {ν : Nu} : ∀ {l m : List (W × W × Nat)} {xs ys : List MapEntry}, cvEs ν l = some xs → cvEs ν m = some ys → cvEs ν (l ++ m) = some (xs ++ ys)
  | [], m, xs, ys, h, k => by simp only [cvEs, Option.some.injEq] at h; subst h; simpa using k
  | e :: l, m, xs, ys, h, k => by
    obtain ⟨x, zs, h1, h2, rfl⟩ := cvEs_cons h
    exact cvEs_mk h1 (cvEs_append h2 k)

/-- The known cells of a row. -/
def RowR (ν : Nu) (k : Nat) (t : Tr S) (cur : Array Value) : Prop :=
  k ≤ top ∧ ∀ i, i < k → t.get i = .any ∨ ∃ v, cur[i]? = some v ∧ cvS ν (t.get i) = some v

theorem RowR.mono {ν ν' : Nu} (h : ν.le ν') {k : Nat} {t : Tr S} {cur : Array Value} (r : RowR ν k t cur) : RowR ν' k t cur := ⟨r.1, fun i hi => by
  rcases r.2 i hi with h1 | ⟨v, h1, h2⟩
  · exact .inl h1
  · exact .inr ⟨v, h1, cvS_mono h h2⟩⟩

def ObR (ν : Nu) : B → Nat → Option Obj → Prop
  | .row k t e z o, sl, ob => ∃ cur, ob = some (.cells cur e (0, 0)) ∧ RowR ν k t cur ∧ cur.size = k + sl * z ∧ (o = false → sl = 0)
  | .map es c, _, ob => ∃ l, ob = some (.map l.toArray c) ∧ cvEs ν es = some l
  | _, _, _ => False

def live : B → Bool
  | .row .. => true
  | .map .. => true
  | _ => false

theorem ObR.mono {ν ν' : Nu} (h : ν.le ν') {x : B} {sl : Nat} {ob : Option Obj} (r : ObR ν x sl ob) : ObR ν' x sl ob := by
  cases x with
  | row k t e z o => obtain ⟨cur, h1, h2, h3, h4⟩ := r; exact ⟨cur, h1, h2.mono h, h3, h4⟩
  | map es c => obtain ⟨l, h1, h2⟩ := r; exact ⟨l, h1, cvEs_mono h h2⟩
  | none => exact r
  | dead => exact r

structure Ga (B0 : Nat) (W0 : World) (ν : Nu) (h : H) (w : World) : Prop where
  below : Below B0 W0 w
  base : B0 ≤ w.heap.size
  no : ∀ n, h.get n = .none → ν n = none
  lim : ∀ n, h.get n ≠ .none → n < top
  obj : ∀ n, live (h.get n) = true → ∃ y, ν n = some y ∧ B0 ≤ y.1 ∧ ObR ν (h.get n) y.2 (w.heap[y.1]?)
  inj : ∀ n m y y', live (h.get n) = true → live (h.get m) = true → ν n = some y → ν m = some y' → y.1 = y'.1 → n = m

section
variable {B0 : Nat} {W0 : World} {ν : Nu} {h : H} {w : World}

theorem H.get_put (h : H) {n : Nat} (hn : n < top) (b : B) (m : Nat) : (h.put n b).get m = if m = n then b else h.get m := by
  rw [H.put_eq]
  exact Tr.get_set16 h.t n b hn m

theorem ObR.lt {ν : Nu} {x : B} {sl b : Nat} {w : World} (r : ObR ν x sl (w.heap[b]?)) : b < w.heap.size := by
  rcases Nat.lt_or_ge b w.heap.size with hb | hb
  · exact hb
  · rw [Array.getElem?_eq_none hb] at r
    cases x with
    | row k t e z o => obtain ⟨cur, h1, _⟩ := r; cases h1
    | map es c => obtain ⟨l, h1, _⟩ := r; cases h1
    | none => exact r.elim
    | dead => exact r.elim

theorem Ga.congr {h' : H} (g : Ga B0 W0 ν h w) (e : ∀ n, h'.get n = h.get n) : Ga B0 W0 ν h' w where
  below := g.below
  base := g.base
  no := fun n hn => g.no n (by rw [← e n]; exact hn)
  lim := fun n hn => g.lim n (by rw [← e n]; exact hn)
  obj := fun n hn => by rw [e n] at hn ⊢; exact g.obj n hn
  inj := fun n m y y' hn hm => by rw [e n] at hn; rw [e m] at hm; exact g.inj n m y y' hn hm

/-- The world is another one, the same blocks. -/
theorem Ga.world {w' : World} (g : Ga B0 W0 ν h w) (hb : Below B0 W0 w') (e : w'.heap = w.heap) : Ga B0 W0 ν h w' where
  below := hb
  base := by rw [e]; exact g.base
  no := g.no
  lim := g.lim
  obj := by rw [e]; exact g.obj
  inj := g.inj

theorem Ga.drew (g : Ga B0 W0 ν h w) : Ga B0 W0 ν h w.drew := g.world g.below.drew rfl

/-- One name's block is set, or new. -/
theorem Ga.put {ν' : Nu} {w' : World} {n : Nat} {x : B} (g : Ga B0 W0 ν h w) (hle : ν.le ν') (hb : Below B0 W0 w') (base : B0 ≤ w'.heap.size) (hn : n < top) (hx : x ≠ .none)
    (hν : ∀ m, m ≠ n → h.get m = .none → ν' m = none)
    (keep : ∀ m y, m ≠ n → live (h.get m) = true → ν m = some y → w'.heap[y.1]? = w.heap[y.1]?)
    (fresh : live x = true → ∃ y, ν' n = some y ∧ B0 ≤ y.1 ∧ ObR ν' x y.2 (w'.heap[y.1]?) ∧ ∀ m y', m ≠ n → live (h.get m) = true → ν m = some y' → y'.1 ≠ y.1) :
    Ga B0 W0 ν' (h.put n x) w' := by
  have hget := H.get_put h hn x
  refine ⟨hb, base, fun m hm => ?_, fun m hm => ?_, fun m hm => ?_, fun m m' y y' hm hm' hy hy' e => ?_⟩
  · rw [hget] at hm
    by_cases hmn : m = n
    · rw [if_pos hmn] at hm; exact absurd hm hx
    · rw [if_neg hmn] at hm; exact hν m hmn hm
  · rw [hget] at hm
    by_cases hmn : m = n
    · rw [hmn]; exact hn
    · rw [if_neg hmn] at hm; exact g.lim m hm
  · rw [hget] at hm ⊢
    by_cases hmn : m = n
    · rw [if_pos hmn] at hm ⊢
      obtain ⟨y, h1, h2, h3, _⟩ := fresh hm
      exact ⟨y, by rw [hmn]; exact h1, h2, h3⟩
    · rw [if_neg hmn] at hm ⊢
      obtain ⟨y, h1, h2, h3⟩ := g.obj m hm
      exact ⟨y, hle m y h1, h2, by rw [keep m y hmn hm h1]; exact h3.mono hle⟩
  · rw [hget] at hm hm'
    by_cases hmn : m = n
    · by_cases hmn' : m' = n
      · rw [hmn, hmn']
      · rw [if_pos hmn] at hm
        rw [if_neg hmn'] at hm'
        obtain ⟨z, h1, _, _, h4⟩ := fresh hm
        obtain ⟨z', k1, _, _⟩ := g.obj m' hm'
        have e1 : y = z := by rw [hmn, h1] at hy; exact (Option.some.inj hy).symm
        have e2 : y' = z' := by rw [hle m' z' k1] at hy'; exact (Option.some.inj hy').symm
        exact absurd (by rw [← e1, ← e2]; exact e.symm) (h4 m' z' hmn' hm' k1)
    · by_cases hmn' : m' = n
      · rw [if_neg hmn] at hm
        rw [if_pos hmn'] at hm'
        obtain ⟨z, h1, _, _, h4⟩ := fresh hm'
        obtain ⟨z', k1, _, _⟩ := g.obj m hm
        have e1 : y' = z := by rw [hmn', h1] at hy'; exact (Option.some.inj hy').symm
        have e2 : y = z' := by rw [hle m z' k1] at hy; exact (Option.some.inj hy).symm
        exact absurd (by rw [← e1, ← e2]; exact e) (h4 m z' hmn hm k1)
      · rw [if_neg hmn] at hm
        rw [if_neg hmn'] at hm'
        obtain ⟨z, k1, _, _⟩ := g.obj m hm
        obtain ⟨z', k1', _, _⟩ := g.obj m' hm'
        have e1 : y = z := by rw [hle m z k1] at hy; exact (Option.some.inj hy).symm
        have e2 : y' = z' := by rw [hle m' z' k1'] at hy'; exact (Option.some.inj hy').symm
        exact g.inj m m' z z' hm hm' k1 k1' (by rw [← e1, ← e2]; exact e)

theorem Ga.dead (g : Ga B0 W0 ν h w) {n : Nat} (hn : h.get n ≠ .none) : Ga B0 W0 ν (h.put n .dead) w :=
  g.put (Nu.le_refl ν) g.below g.base (g.lim n hn) (by simp) (fun m _ hm => g.no m hm) (fun _ _ _ _ _ => rfl) (fun hl => by simp [live] at hl)

/-- The row of a name. -/
theorem Ga.row (g : Ga B0 W0 ν h w) {n k : Nat} {t : Tr S} {e z : Nat} {o : Bool} (hn : h.get n = .row k t e z o) :
    ∃ b sl cur, ν n = some (b, sl) ∧ B0 ≤ b ∧ b < w.heap.size ∧ w.heap[b]? = some (.cells cur e (0, 0)) ∧ RowR ν k t cur ∧ cur.size = k + sl * z ∧ (o = false → sl = 0) := by
  obtain ⟨⟨b, sl⟩, h1, h2, h3⟩ := g.obj n (by rw [hn]; rfl)
  have hlt := h3.lt
  rw [hn] at h3
  obtain ⟨cur, k1, k2, k3, k4⟩ := h3
  exact ⟨b, sl, cur, h1, h2, hlt, k1, k2, k3, k4⟩

/-- A row's cells are set. -/
theorem Ga.setRow (g : Ga B0 W0 ν h w) {n k : Nat} {t t' : Tr S} {e z : Nat} {o : Bool} (hn : h.get n = .row k t e z o) {b sl : Nat} {cur cur' : Array Value}
    (hν : ν n = some (b, sl)) (hw : w.heap[b]? = some (.cells cur e (0, 0))) (hr : RowR ν k t' cur') (hs : cur'.size = cur.size) :
    Ga B0 W0 ν (h.put n (.row k t' e z o)) (w.setRow b cur') := by
  obtain ⟨b1, sl1, cur1, h1, h2, _, h3, _, h5, h6⟩ := g.row hn
  rw [hν] at h1
  obtain ⟨rfl, rfl⟩ := Prod.mk.inj (Option.some.inj h1)
  rw [hw] at h3
  obtain rfl : cur = cur1 := by injection h3 with h3; injection h3
  have hl : live (h.get n) = true := by rw [hn]; rfl
  refine g.put (Nu.le_refl ν) (below_setRow g.below h2 cur') (by rw [setRow_size]; exact g.base) (g.lim n (by rw [hn]; simp)) (by simp) (fun m _ hm => g.no m hm) (fun m y hmn hm hy => ?_) (fun _ => ?_)
  · exact setRow_other w b y.1 cur' fun e => hmn (g.inj m n y (b, sl) hm hl hy hν e)
  · exact ⟨(b, sl), hν, h2, ⟨cur', setRow_heap w b cur cur' e (0, 0) hw, hr, by rw [hs]; exact h5, h6⟩, fun m y hmn hm hy e => hmn (g.inj m n y (b, sl) hm hl hy hν e)⟩

theorem H.new_eq {x : B} {n : Nat} {h' : H} (hh : h.new x = some (n, h')) : n < top ∧ h.get n = .none ∧ (∀ m, h'.get m = (h.put n x).get m) := by
  obtain ⟨t, nx⟩ := h
  have hh' : cond (Nat.blt nx top && isNone (t.get nx)) (fBk x fun b => Tr.setK 16 t nx b fun t => some (nx, (⟨t, Nat.succ nx⟩ : H))) none = some (n, h') := hh
  rw [fBk_eq, Tr.setK_eq] at hh'
  cases hc : (Nat.blt nx top && isNone (t.get nx)) with
  | false => simp [hc] at hh'
  | true =>
    simp only [hc, cond_true, Option.some.injEq, Prod.mk.injEq] at hh'
    obtain ⟨rfl, rfl⟩ := hh'
    simp only [Bool.and_eq_true] at hc
    refine ⟨Nat.le_of_ble_eq_true hc.1, ?_, fun m => by rw [H.put_eq]; rfl⟩
    have := hc.2
    show t.get nx = .none
    cases hg : t.get nx <;> simp [hg, isNone] at this
    rfl

def Nu.upd (ν : Nu) (n : Nat) (y : Nat × Nat) : Nu := fun m => if m = n then some y else ν m

theorem Nu.le_upd {ν : Nu} {n : Nat} {y : Nat × Nat} (hn : ν n = none) : ν.le (ν.upd n y) := fun m z hm => by
  unfold Nu.upd
  by_cases e : m = n
  · rw [e, hn] at hm; cases hm
  · rw [if_neg e]; exact hm

/-- A new block. -/
theorem Ga.new (g : Ga B0 W0 ν h w) {x : B} {n : Nat} {h' : H} (hh : h.new x = some (n, h')) (hx : x ≠ .none) (sl : Nat) (ob : Obj) (hob : ObR ν x sl (some ob)) :
    ν.le (ν.upd n (w.heap.size, sl)) ∧ Ga B0 W0 (ν.upd n (w.heap.size, sl)) h' (w.alloc ob) := by
  obtain ⟨hn, hno, hget⟩ := H.new_eq hh
  have hle := Nu.le_upd (y := (w.heap.size, sl)) (g.no n hno)
  refine ⟨hle, (g.put hle (g.below.alloc g.base ob) (by simp; have := g.base; omega) hn hx (fun m hmn hm => ?_) (fun m y hmn hm hy => ?_) (fun _ => ?_)).congr hget⟩
  · unfold Nu.upd; rw [if_neg hmn]; exact g.no m hm
  · obtain ⟨y', h1, _, h3⟩ := g.obj m hm
    have : y = y' := by rw [hy] at h1; exact Option.some.inj h1
    rw [this]
    exact heap_alloc_old w ob _ h3.lt
  · refine ⟨(w.heap.size, sl), by simp [Nu.upd], g.base, ?_, fun m y hmn hm hy e => ?_⟩
    · show ObR _ x sl ((w.alloc ob).heap[w.heap.size]?)
      rw [heap_alloc_new w ob]
      exact hob.mono hle
    · obtain ⟨y', h1, _, h3⟩ := g.obj m hm
      have : y = y' := by rw [hy] at h1; exact Option.some.inj h1
      rw [this] at e
      have := h3.lt
      simp only at e
      omega

/-- A block whose elder name is dead gets a new name and new cells. -/
theorem Ga.rename (g : Ga B0 W0 ν h w) {n k : Nat} {t : Tr S} {e z : Nat} {o : Bool} (hn : h.get n = .row k t e z o) {b sl : Nat} {cur cur' : Array Value}
    (hν : ν n = some (b, sl)) (hw : w.heap[b]? = some (.cells cur e (0, 0))) {k' : Nat} {t' : Tr S} {m : Nat} {h' : H} (hh : (h.put n .dead).new (.row k' t' e z true) = some (m, h'))
    (hr : RowR ν k' t' cur') (sl' : Nat) (hs : cur'.size = k' + sl' * z) :
    ν.le (ν.upd m (b, sl')) ∧ Ga B0 W0 (ν.upd m (b, sl')) h' (w.setRow b cur') := by
  obtain ⟨b1, sl1, cur1, h1, h2, _, h3, _, h5, h6⟩ := g.row hn
  rw [hν] at h1
  obtain ⟨rfl, rfl⟩ := Prod.mk.inj (Option.some.inj h1)
  have hl : live (h.get n) = true := by rw [hn]; rfl
  have hnn : h.get n ≠ .none := by rw [hn]; simp
  have g1 := g.dead hnn
  obtain ⟨hm, hno, hget⟩ := H.new_eq hh
  have hle := Nu.le_upd (y := (b, sl')) (g1.no m hno)
  have hgd := H.get_put h (g.lim n hnn) .dead
  have other : ∀ i y, live ((h.put n .dead).get i) = true → ν i = some y → y.1 ≠ b := fun i y hi hy e => by
    rw [hgd] at hi
    by_cases hin : i = n
    · rw [if_pos hin] at hi; simp [live] at hi
    · rw [if_neg hin] at hi; exact hin (g.inj i n y (b, sl) hi hl hy hν e)
  refine ⟨hle, (g1.put hle (below_setRow g1.below h2 cur') (by rw [setRow_size]; exact g1.base) hm (by simp) (fun i hin hi => ?_) (fun i y hin hi hy => ?_) (fun _ => ?_)).congr hget⟩
  · unfold Nu.upd; rw [if_neg hin]; exact g1.no i hi
  · exact setRow_other w b y.1 cur' (other i y hi hy)
  · exact ⟨(b, sl'), by simp [Nu.upd], h2, ⟨cur', setRow_heap w b cur cur' e (0, 0) hw, hr.mono hle, hs, fun e => by cases e⟩, fun i y _ hi hy => other i y hi hy⟩

/-- A map's entries are set. -/
theorem Ga.setMap (g : Ga B0 W0 ν h w) {n : Nat} {es es' : List (W × W × Nat)} {c c' : Nat} (hn : h.get n = .map es c) {b sl : Nat} {l' : List MapEntry} (hν : ν n = some (b, sl)) (hl' : cvEs ν es' = some l') :
    Ga B0 W0 ν (h.put n (.map es' c')) { w with heap := w.heap.setIfInBounds b (.map l'.toArray c') } := by
  obtain ⟨⟨b1, sl1⟩, h1, h2, h3⟩ := g.obj n (by rw [hn]; rfl)
  rw [hν] at h1
  obtain ⟨rfl, rfl⟩ := Prod.mk.inj (Option.some.inj h1)
  have hlt := h3.lt
  have hl : live (h.get n) = true := by rw [hn]; rfl
  have hb' : Below B0 w { w with heap := w.heap.setIfInBounds b (.map l'.toArray c') } := ⟨rfl, rfl, rfl, by simp, fun k hk => by
    have : ¬ b = k := by simp only at h2; omega
    simp [Array.getElem?_setIfInBounds_ne this]⟩
  refine g.put (Nu.le_refl ν) (g.below.trans hb') (by simpa using g.base) (g.lim n (by rw [hn]; simp)) (by simp) (fun m _ hm => g.no m hm) (fun m y hmn hm hy => ?_) (fun _ => ?_)
  · have : ¬ b = y.1 := fun e => hmn (g.inj m n y (b, sl) hm hl hy hν e.symm)
    simp [Array.getElem?_setIfInBounds_ne this]
  · refine ⟨(b, sl), hν, h2, ⟨l', ?_, hl'⟩, fun m y hmn hm hy e => hmn (g.inj m n y (b, sl) hm hl hy hν e)⟩
    simp only at hlt
    simp [hlt]

end
end Ai
end Go.Proofs.YtjmhkcfdmcjilaaGreat
namespace Go.Proofs.YtjmhkcfdmcjilaaGreat
namespace Ai
open Go.RowKit
section
variable {P : Program} {ν : Nu}

/-! ### The program's types -/

theorem sizeT_run {t : TypeId} {z : Nat} (h : sizeT P t = some z) (w : World) : (sizeOf t).run P w = .ok z w := by
  unfold sizeT at h
  cases hi : P.info? t with
  | none => simp [hi] at h
  | some i =>
    simp only [hi, Option.map_some, Option.some.injEq] at h
    simp [sizeOf, typeInfo, hi, h]

theorem isAggT_run {t : TypeId} {b : Bool} (h : isAggT P t = some b) (w : World) : (isAgg t).run P w = .ok b w := by
  unfold isAggT at h
  cases hu : P.underlying t with
  | none => simp [hu] at h
  | some d =>
    simp only [isAgg, Sem.run_bind, run_underlying hu, Result.andThen_ok]
    cases d <;> simp only [hu, Option.some.injEq] at h <;> subst h <;> simp

theorem cells_cv {x : W} {v : Value} (h : cvW ν x = some v) : cvL ν x.cells = some v.cells.toList := by
  cases x with
  | s x =>
    have h1 := cvS_one (ν := ν) (x := x) (v := v) h
    have h2 : cvS ν x = some v := h
    have : v.cells = #[v] := by cases v <;> first | rfl | simp [Value.oneCell'] at h1
    simp [W.cells, cvL, h2, this]
  | a l =>
    simp only [cvW] at h
    cases hl : cvL ν l with
    | none => simp [hl] at h
    | some vs =>
      simp only [hl, Option.some.injEq] at h
      subst h
      simpa [W.cells, Value.cells] using hl

theorem zeroT_run {t : TypeId} {x : V} (h : zeroT P t = some x) : ∃ z, (∀ w, (zeroValue t).run P w = .ok z w) ∧ ∀ ν, cvV ν x = some z := by
  unfold zeroT at h
  cases hi : P.info? t with
  | none => simp [hi] at h
  | some i =>
    simp only [hi] at h
    cases hz : i.zero with
    | none => simp [hz] at h
    | some z =>
      simp only [hz] at h
      exact ⟨z, fun w => by simp [zeroValue, typeInfo, hi, hz], fun ν => absV_cv h ν⟩

theorem zeroC_info {t : TypeId} {l : List S} (h : zeroC P t = some l) : ∃ i z, P.info? t = some i ∧ i.zero = some z ∧ ∀ ν, cvL ν l = some z.cells.toList := by
  unfold zeroC at h
  cases hz : zeroT P t with
  | none => simp [hz] at h
  | some x =>
    cases x with
    | t l => simp [hz] at h
    | w x =>
      simp only [hz, Option.some.injEq] at h
      subst h
      unfold zeroT at hz
      cases hi : P.info? t with
      | none => simp [hi] at hz
      | some i =>
        simp only [hi] at hz
        cases hzz : i.zero with
        | none => simp [hzz] at hz
        | some z =>
          simp only [hzz] at hz
          exact ⟨i, z, rfl, hzz, fun ν => cells_cv (show cvW ν x = some z from absV_cv hz ν)⟩

theorem zeroC_run {t : TypeId} {l : List S} (h : zeroC P t = some l) : ∃ z, (∀ w, (zeroValue t).run P w = .ok z w) ∧ ∀ ν, cvL ν l = some z.cells.toList := by
  obtain ⟨i, z, h1, h2, h3⟩ := zeroC_info h
  exact ⟨z, fun w => by simp [zeroValue, typeInfo, h1, h2], h3⟩

theorem cvL_agg {l : List S} {vs : Array Value} (h : cvW ν (.a l) = some (.agg vs)) : cvL ν l = some vs.toList := by
  simp only [cvW] at h
  cases hl : cvL ν l with
  | none => simp [hl] at h
  | some us =>
    simp only [hl, Option.some.injEq, Value.agg.injEq] at h
    rw [← h]

theorem agg_of {l : List S} {v : Value} (h : cvV ν (.w (.a l)) = some v) : ∃ vs : Array Value, v = .agg vs ∧ cvL ν l = some vs.toList := by
  simp only [cvV, cvW] at h
  cases hl : cvL ν l with
  | none => simp [hl] at h
  | some us =>
    simp only [hl, Option.some.injEq] at h
    exact ⟨us.toArray, h.symm, by simp⟩

theorem agg_mk {l : List S} {vs : List Value} (h : cvL ν l = some vs) : cvV ν (.w (.a l)) = some (.agg vs.toArray) := by
  simp [cvV, cvW, h]

theorem partT_run {t : TypeId} {cs : List S} {off : Nat} {x : V} {vs : Array Value} (h : partT P t cs off = some x) (hc : cvL ν cs = some vs.toList) :
    ∃ u, cvV ν x = some u ∧ ∀ w, (part t vs off).run P w = .ok u w := by
  unfold partT at h
  cases ha : isAggT P t with
  | none => simp [ha] at h
  | some b =>
    cases b with
    | true =>
      simp only [ha] at h
      cases hz : sizeT P t with
      | none => simp [hz] at h
      | some z =>
        simp only [hz, Option.some.injEq] at h
        subst h
        refine ⟨_, agg_mk (cvL_take z (cvL_drop off hc)), fun w => ?_⟩
        simp only [part, Sem.run_bind, isAggT_run ha, Result.andThen_ok, sizeT_run hz, if_true, Sem.run_pure]
        congr 2
        apply Array.ext'
        simp [List.extract_eq_take_drop]
    | false =>
      simp only [ha] at h
      cases hg : cs[off]? with
      | none => simp [hg] at h
      | some y =>
        simp only [hg, Option.map_some, Option.some.injEq] at h
        subst h
        have h1 := cvL_get hc off
        rw [hg] at h1
        cases hy : cvS ν y with
        | none =>
          have h2 := cvL_length hc
          have h3 : off < cs.length := (List.getElem?_eq_some_iff.1 hg).1
          rw [List.getElem?_eq_getElem (by omega)] at h1
          simp [hy] at h1
        | some u =>
          refine ⟨u, hy, fun w => ?_⟩
          have h4 : vs[off]? = some u := by simpa [hy] using h1
          simp [part, isAggT_run ha, h4]

/-! ### Operands -/

def FR (ν : Nu) (f : F) (a : Array Value) : Prop := a.size = f.n ∧ ∀ t, cvV ν (f.t.get t) = some (a.getD t undef)

theorem FR.mono {ν ν' : Nu} (h : ν.le ν') {f : F} {a : Array Value} (r : FR ν f a) : FR ν' f a := ⟨r.1, fun t => cvV_mono h (r.2 t)⟩

theorem ev_ok {f : F} {a : Act} (r : FR ν f a.tmps) {x : Operand} {v : V} (h : f.ev x = some v) : cvV ν v = some (a.eval x) := by
  cases x with
  | tmp t => simp only [F.ev, Option.some.injEq] at h; subst h; exact r.2 t
  | const c => exact absV_cv h ν
  | global g => simp [F.ev] at h
  | func g =>
    simp only [F.ev, Option.some.injEq] at h
    subst h
    simp [cvV, cvW, cvS, cvCs, Act.eval]

theorem put_ok {f f' : F} {a : Act} (r : FR ν f a.tmps) {dst : Option Tmp} {x : V} {u : Value} (h : f.put dst x = some f') (hu : cvV ν x = some u) : FR ν f' (a.put dst u).tmps := by
  cases dst with
  | none => simp only [F.put, Option.some.injEq] at h; subst h; exact r
  | some d =>
    obtain ⟨n, tr⟩ := f
    have h' : cond (Nat.blt d n && Nat.blt n top) (fV x fun x => Tr.setK 16 tr d x fun t => some (⟨n, t⟩ : F)) none = some f' := h
    rw [fV_eq, Tr.setK_eq] at h'
    cases hc : (Nat.blt d n && Nat.blt n top) with
    | false => simp [hc] at h'
    | true =>
      simp only [hc, cond_true, Option.some.injEq] at h'
      subst h'
      simp only [Bool.and_eq_true, Nat.blt, Nat.ble_eq] at hc
      have hd : d < n := hc.1
      have hn : n < top := hc.2
      have hsz : a.tmps.size = n := r.1
      refine ⟨by simp [Act.put, hsz], fun t => ?_⟩
      show cvV ν ((Tr.set 16 tr d x).get t) = _
      rw [Tr.get_set16 tr d x (by omega)]
      by_cases e : t = d
      · subst e
        have : t < a.tmps.size := by rw [hsz]; exact hd
        simp [Act.put, hu, this]
      · have h2 := r.2 t
        simp only at h2
        rw [if_neg e, h2]
        have : ¬ d = t := fun e' => e e'.symm
        simp [Act.put, Array.getElem?_setIfInBounds_ne this]

theorem evs_ok {f : F} {a : Act} (r : FR ν f a.tmps) : ∀ {l : List Operand} {vs : List V}, f.evs l = some vs → l.map (fun x => cvV ν (f.ev x |>.getD undefV)) = l.map (fun x => some (a.eval x)) ∧ vs.map (cvV ν) = l.map (fun x => some (a.eval x))
  | [], vs, h => by simp only [F.evs, Option.some.injEq] at h; subst h; simp
  | x :: l, vs, h => by
    simp only [F.evs] at h
    cases h1 : f.ev x with
    | none => simp [h1] at h
    | some v =>
      cases h2 : f.evs l with
      | none => simp [h1, h2] at h
      | some us =>
        simp only [h1, h2, Option.some.injEq] at h
        subst h
        have ih := evs_ok r h2
        have hv := ev_ok r h1
        simp only [List.map_cons, h1, Option.getD_some, hv, ih.1, ih.2, and_self]

theorem evs_map {f : F} {a : Act} (r : FR ν f a.tmps) {l : List Operand} {vs : List V} (h : f.evs l = some vs) : vs.map (cvV ν) = (l.map a.eval).map some := by
  rw [(evs_ok r h).2]; simp [Function.comp_def]

theorem evp_ok {f : F} {a : Act} (r : FR ν f a.tmps) : ∀ {l : List (Nat × Operand)} {vs : List (Nat × V)}, f.evp l = some vs →
    vs.map (fun p => (p.1, cvV ν p.2)) = l.map (fun p => (p.1, some (a.eval p.2)))
  | [], vs, h => by simp only [F.evp, Option.some.injEq] at h; subst h; simp
  | (i, x) :: l, vs, h => by
    simp only [F.evp] at h
    cases h1 : f.ev x with
    | none => simp [h1] at h
    | some v =>
      cases h2 : f.evp l with
      | none => simp [h1, h2] at h
      | some us =>
        simp only [h1, h2, Option.some.injEq] at h
        subst h
        simp only [List.map_cons, ev_ok r h1, evp_ok r h2]

/-! ### Values told apart -/

theorem int_of {k : IntKind} {n : Int} {u : Value} (h : cvV ν (.w (.s (.i k n))) = some u) : u = .int k n := (Option.some.inj h).symm
theorem bool_of {b : Bool} {u : Value} (h : cvV ν (.w (.s (.b b))) = some u) : u = .bool b := (Option.some.inj h).symm
theorem str_of {l : List UInt8} {u : Value} (h : cvV ν (.w (.s (.s l))) = some u) : u = .string ⟨l.toArray⟩ := (Option.some.inj h).symm
theorem ptr_of {n off : Nat} {u : Value} (h : cvV ν (.w (.s (.p n off))) = some u) : ∃ y, ν n = some y ∧ u = .pointer (some ⟨y.1, off, none⟩) := by
  simp only [cvV, cvW, cvS] at h
  cases hn : ν n with
  | none => simp [hn] at h
  | some y => simp only [hn, Option.some.injEq] at h; exact ⟨y, rfl, h.symm⟩
theorem ptr_mk {n : Nat} {y : Nat × Nat} (off : Nat) (h : ν n = some y) : cvV ν (.w (.s (.p n off))) = some (.pointer (some ⟨y.1, off, none⟩)) := by
  simp [cvV, cvW, cvS, h]
theorem sl_of {n off len c : Nat} {o : Bool} {u : Value} (h : cvV ν (.w (.s (.sl n off len c o))) = some u) :
    ∃ y, ν n = some y ∧ u = .slice (some ⟨y.1, off, none⟩) len (cond o (c + y.2) c) := by
  simp only [cvV, cvW, cvS] at h
  cases hn : ν n with
  | none => simp [hn] at h
  | some y => simp only [hn, Option.some.injEq] at h; exact ⟨y, rfl, h.symm⟩
theorem sl_mk {n : Nat} {y : Nat × Nat} (off len c : Nat) (o : Bool) (h : ν n = some y) : cvV ν (.w (.s (.sl n off len c o))) = some (.slice (some ⟨y.1, off, none⟩) len (cond o (c + y.2) c)) := by
  simp [cvV, cvW, cvS, h]
theorem nsl_of {u : Value} (h : cvV ν (.w (.s .nsl)) = some u) : u = .slice none 0 0 := (Option.some.inj h).symm

theorem vNat_of {x : V} {n : Nat} {u : Value} (h : vNat x = some n) (hu : cvV ν x = some u) : ∃ k, u = .int k (n : Int) := by
  unfold vNat at h
  split at h
  · simp only [Option.some.injEq] at h
    subst h
    exact ⟨_, int_of hu⟩
  · simp at h

theorem add_addr (b off n : Nat) : (⟨b, off, none⟩ : Addr).add n = ⟨b, off + n, none⟩ := by
  unfold Addr.add; split <;> simp_all

end
end Ai
end Go.Proofs.YtjmhkcfdmcjilaaGreat
/- Operations that look at no memory, one by one. -/
namespace Go.Proofs.YtjmhkcfdmcjilaaGreat
namespace Ai
open Go.RowKit
section
variable {P : Program} {ν : Nu}

theorem eqGuard_int (op : BinOp) (t : TypeId) (x y : Operand) (k k' : IntKind) (m n : Int) (w : World) : (eqGuard op t x y (.int k m) (.int k' n)).run P w = .ok () w := by
  unfold eqGuard
  cases op <;> simp

theorem eqGuard_string (op : BinOp) (t : TypeId) (x y : Operand) (l r : ByteArray) (w : World) : (eqGuard op t x y (.string l) (.string r)).run P w = .ok () w := by
  unfold eqGuard
  cases op <;> simp

theorem aIntOp_ok {op : BinOp} {t : TypeId} {k : IntKind} {m n : Int} {s : S} (h : aIntOp op k m n = some s) : ∃ u, cvS ν s = some u ∧ ∀ w, (binOp op t (.int k m) (.int k n)).run P w = .ok u w := by
  cases op <;> simp only [aIntOp, wrapF_eq, iLt_eq, iEq_eq] at h <;> first
    | (simp only [Option.some.injEq] at h
       subst h
       exact ⟨_, rfl, fun w => by simp [binOp, Op.intArith, Op.intBits, Op.intCmp, bne, ← Int.not_lt]⟩)
    | (cases hn : (n == 0) with
       | true => simp [hn] at h
       | false =>
         simp only [hn, cond_false, Option.some.injEq] at h
         subst h
         exact ⟨_, rfl, fun w => by simp only [beq_eq_false_iff_ne] at hn; simp [binOp, Op.intDiv, hn]⟩)
    | (simp at h)

theorem aShift_ok {op : BinOp} {t : TypeId} {k k' : IntKind} {m n : Int} {s : S} (h : aShift op k m n = some s) : ∃ u, cvS ν s = some u ∧ ∀ w, (binOp op t (.int k m) (.int k' n)).run P w = .ok u w := by
  unfold aShift at h
  cases hn : decide (n < 0) with
  | true => simp [hn] at h
  | false =>
    simp only [hn, cond_false] at h
    simp only [decide_eq_false_iff_not] at hn
    cases op <;> simp only [Option.some.injEq, reduceCtorEq] at h <;> subst h <;> exact ⟨_, rfl, fun w => by simp [binOp, Op.shift, hn]⟩

theorem toList_mk (l : List UInt8) : (ByteArray.mk l.toArray).toList = l := by
  have : ∀ (r : List UInt8) (i : Nat), (ByteArray.mk l.toArray).size - i = (l.drop i).length → r.reverse ++ l.drop i = ByteArray.toList.loop ⟨l.toArray⟩ i r := by
    intro r i
    induction hn : (l.drop i).length generalizing r i with
    | zero =>
      intro _
      unfold ByteArray.toList.loop
      have h1 : l.drop i = [] := List.length_eq_zero_iff.1 hn
      have h2 : ¬ i < (ByteArray.mk l.toArray).size := by
        have := List.drop_eq_nil_iff.1 h1
        simpa [ByteArray.size] using this
      simp [h1, h2]
    | succ n ih =>
      intro _
      unfold ByteArray.toList.loop
      have h2 : i < l.length := by simp at hn; omega
      have h3 : i < (ByteArray.mk l.toArray).size := by simpa [ByteArray.size] using h2
      rw [if_pos h3]
      have h4 : (l.drop (i + 1)).length = n := by simp at hn ⊢; omega
      rw [← ih _ _ h4 (by simp [ByteArray.size]; simp at hn; omega)]
      rw [List.drop_eq_getElem_cons h2]
      simp [ByteArray.get!, h2]
  simpa [ByteArray.toList, ByteArray.size] using (this [] 0 (by simp [ByteArray.size])).symm

theorem equal_run {t : TypeId} {d : TypeDesc} {a b : Value} {q : Bool} (hu : P.underlying t = some d) (h : P.underlying t = some d → ∀ n w, (Op.equalIn (n + 1) t a b).run P w = .ok q w) (w : World) : (Op.equal t a b).run P w = .ok q w :=
  h hu 9999 w

/-- Neither ints nor strings nor what else has operators of its own. -/
def plainEq (a b : Value) : Prop := (∀ op t, binOp op t a b = match op with
  | .eql => (do pure (.bool (← Op.equal t a b)))
  | .neq => (do pure (.bool (!(← Op.equal t a b))))
  | op => binOp op t a b)

theorem aSame_ok {t : TypeId} {x y : Operand} {s1 s2 : S} {q : Bool} {a b : Value} (h : aSame P t x y s1 s2 = some q) (ha : cvS ν s1 = some a) (hb : cvS ν s2 = some b) :
    (∀ op w, (eqGuard op t x y a b).run P w = .ok () w) ∧ (∀ w, (Op.equal t a b).run P w = .ok q w) ∧ plainEq a b := by
  unfold aSame at h
  split at h
  case h_11 => cases h
  case h_7 hu =>
    simp only [cvS, Option.some.injEq] at ha hb
    subst ha; subst hb
    cases hc : (Region.isConst x || Region.isConst y) with
    | false => simp [hc] at h
    | true =>
      simp only [hc, cond_true, Option.some.injEq] at h
      subst h
      refine ⟨fun op w => ?_, fun w => equal_run hu (fun hu n w => by simp [Op.equalIn, run_underlying hu]) w, fun op t => by cases op <;> rfl⟩
      unfold eqGuard
      cases x <;> cases y <;> first
        | (simp [Region.isConst] at hc; done)
        | (cases op <;> simp)
  case h_1 hu =>
    simp only [cvS, Option.some.injEq] at ha hb h
    subst ha; subst hb; subst h
    refine ⟨fun op w => ?_, fun w => equal_run hu (fun hu n w => by simp [Op.equalIn, run_underlying hu]) w, fun op t => by cases op <;> rfl⟩
    unfold eqGuard
    cases op <;> simp
  all_goals
    rename_i hu
    simp only [cvS] at ha hb
    simp only [Option.some.injEq] at h
    (try split at ha) <;> (try split at hb) <;> first
      | (cases ha; done)
      | (cases hb; done)
      | (simp only [Option.some.injEq] at ha hb
         subst ha; subst hb; subst h
         refine ⟨fun op w => ?_, fun w => equal_run hu (fun hu n w => by simp [Op.equalIn, run_underlying hu]) w, fun op t => by cases op <;> rfl⟩
         unfold eqGuard
         cases op <;> simp)

theorem aBin_ok {op : BinOp} {t : TypeId} {x y : Operand} {va vb v : V} {a b : Value} (h : aBin P op t x y va vb = some v) (ha : cvV ν va = some a) (hb : cvV ν vb = some b) :
    ∃ u, cvV ν v = some u ∧ ∀ w, (do eqGuard op t x y a b; binOp op t a b : Sem Value).run P w = .ok u w := by
  unfold aBin at h
  split at h
  · rename_i s1 s2
    split at h
    · rename_i k m k' n
      obtain rfl := int_of ha
      obtain rfl := int_of hb
      have key : ∃ s u, v = .w (.s s) ∧ cvS ν s = some u ∧ ∀ w, (binOp op t (.int k m) (.int k' n)).run P w = .ok u w := by
        cases hs : isShift op with
        | true =>
          simp only [hs, cond_true] at h
          cases h1 : aShift op k m n with
          | none => simp [h1] at h
          | some s =>
            simp only [h1, Option.map_some, Option.some.injEq] at h
            obtain ⟨u, hu, hr⟩ := aShift_ok (P := P) (ν := ν) (t := t) (k' := k') h1
            exact ⟨s, u, h.symm, hu, hr⟩
        | false =>
          simp only [hs, cond_false] at h
          rw [kEq_eq] at h
          cases hk : decide (k = k') with
          | false => simp [hk] at h
          | true =>
            simp only [hk, cond_true] at h
            simp only [decide_eq_true_eq] at hk
            subst hk
            cases h1 : aIntOp op k m n with
            | none => simp [h1] at h
            | some s =>
              simp only [h1, Option.map_some, Option.some.injEq] at h
              obtain ⟨u, hu, hr⟩ := aIntOp_ok (P := P) (ν := ν) (t := t) h1
              exact ⟨s, u, h.symm, hu, hr⟩
      obtain ⟨s, u, rfl, hu, hr⟩ := key
      exact ⟨u, hu, fun w => by simp [eqGuard_int, hr w]⟩
    · rename_i l r
      obtain rfl := str_of ha
      obtain rfl := str_of hb
      split at h <;> simp only [Option.some.injEq, reduceCtorEq] at h
      all_goals
        subst h
        exact ⟨_, rfl, fun w => by simp [eqGuard_string, binOp, Op.stringOp, toList_mk]⟩
    · split at h
      · rename_i q hq
        simp only [Option.some.injEq] at h
        subst h
        obtain ⟨h1, h2, h3⟩ := aSame_ok hq ha hb
        exact ⟨_, rfl, fun w => by rw [h3 .eql t]; simp [h1, h2]⟩
      · rename_i q hq
        simp only [Option.some.injEq] at h
        subst h
        obtain ⟨h1, h2, h3⟩ := aSame_ok hq ha hb
        exact ⟨_, rfl, fun w => by rw [h3 .neq t]; simp [h1, h2]⟩
      · cases h
  · cases h

theorem aUn_ok {op : UnOp} {vx v : V} {a : Value} (h : aUn op vx = some v) (ha : cvV ν vx = some a) : ∃ u, cvV ν v = some u ∧ ∀ w, (Op.unary op a).run P w = .ok u w := by
  unfold aUn at h
  split at h
  · obtain rfl := bool_of ha
    simp only [Option.some.injEq] at h
    subst h
    exact ⟨_, rfl, fun w => by simp [Op.unary]⟩
  · obtain rfl := int_of ha
    simp only [Option.some.injEq] at h
    subst h
    exact ⟨_, rfl, fun w => by simp [Op.unary, Op.intArith]⟩
  · obtain rfl := int_of ha
    simp only [Option.some.injEq] at h
    subst h
    exact ⟨_, rfl, fun w => by simp [Op.unary, Op.intBits]⟩
  · cases h

theorem aConv_ok {src dst : TypeId} {vx v : V} {a : Value} (h : aConv P src dst vx = some v) (ha : cvV ν vx = some a) : ∃ u, cvV ν v = some u ∧ ∀ w, (convert src dst a).run P w = .ok u w := by
  unfold aConv at h
  split at h
  · rename_i d k k' n h1 h2
    obtain rfl := int_of ha
    simp only [Option.some.injEq] at h
    subst h
    rw [wrapF_eq]
    exact ⟨_, rfl, fun w => by cases d <;> simp [convert, run_underlying h1, run_underlying h2, Conv.intToInt]⟩
  · rename_i d l h1 h2
    obtain rfl := str_of ha
    simp only [Option.some.injEq] at h
    subst h
    refine ⟨_, rfl, fun w => ?_⟩
    cases d <;> simp [convert, run_underlying h1, run_underlying h2]
  · cases h

theorem aFieldAddr_ok {s : TypeId} {vx v : V} {fi : Nat} {a : Value} (h : aFieldAddr P s vx fi = some v) (ha : cvV ν vx = some a) : ∃ u, cvV ν v = some u ∧ ∀ w, (Instr.fieldAt s a fi).run P w = .ok u w := by
  unfold aFieldAddr at h
  split at h
  · rename_i fs n off hu
    obtain ⟨y, hy, rfl⟩ := ptr_of ha
    cases hf : fs[fi]? with
    | none => simp [hf] at h
    | some f =>
      simp only [hf] at h
      split at h
      · rename_i z hz
        simp only [Option.some.injEq] at h
        subst h
        exact ⟨_, ptr_mk _ hy, fun w => by simp [Instr.fieldAt, run_underlying hu, hf, Instr.sureAddr, fieldPlace, sizeT_run hz, add_addr]⟩
      · cases h
  · cases h

theorem aField_ok {t : TypeId} {vx v : V} {fi : Nat} {a : Value} (h : aField P t vx fi = some v) (ha : cvV ν vx = some a) : ∃ u, cvV ν v = some u ∧ ∀ w, (Instr.field t a fi).run P w = .ok u w := by
  unfold aField at h
  split at h
  · rename_i fs cs hu
    obtain ⟨vs, rfl, hc⟩ := agg_of ha
    cases hf : fs[fi]? with
    | none => simp [hf] at h
    | some f =>
      simp only [hf] at h
      obtain ⟨u, h1, h2⟩ := partT_run h hc
      exact ⟨u, h1, fun w => by simp [Instr.field, run_underlying hu, hf, asAgg, h2]⟩
  · cases h

theorem aIndexAddr_ok {t : TypeId} {vx vi v : V} {a b : Value} (h : aIndexAddr P t vx vi = some v) (ha : cvV ν vx = some a) (hb : cvV ν vi = some b) :
    ∃ u, cvV ν v = some u ∧ ∀ w, (Instr.indexAt t a b).run P w = .ok u w := by
  unfold aIndexAddr at h
  split at h
  · rename_i len elem n off i hu hi
    obtain ⟨y, hy, rfl⟩ := ptr_of ha
    obtain ⟨k, rfl⟩ := vNat_of hi hb
    cases hz : sizeT P elem with
    | none => simp [hz] at h
    | some z =>
      simp only [hz] at h
      cases hl : Nat.blt i len with
      | false => simp [hl] at h
      | true =>
        simp only [hl, cond_true, Option.some.injEq] at h
        subst h
        have hlt : i < len := Nat.le_of_ble_eq_true hl
        exact ⟨_, ptr_mk _ hy, fun w => by simp [Instr.indexAt, asIntOf, run_underlying hu, Instr.sureAddr, hlt, sizeT_run hz, add_addr]⟩
  · rename_i elem n off len c o i hu hi
    obtain ⟨y, hy, rfl⟩ := sl_of ha
    obtain ⟨k, rfl⟩ := vNat_of hi hb
    cases hz : sizeT P elem with
    | none => simp [hz] at h
    | some z =>
      simp only [hz] at h
      cases hl : Nat.blt i len with
      | false => simp [hl] at h
      | true =>
        simp only [hl, cond_true, Option.some.injEq] at h
        subst h
        have hlt : i < len := Nat.le_of_ble_eq_true hl
        exact ⟨_, ptr_mk _ hy, fun w => by simp [Instr.indexAt, asIntOf, run_underlying hu, hlt, sizeT_run hz, add_addr]⟩
  · cases h

theorem aIndex_ok {t : TypeId} {vx vi v : V} {a b : Value} (h : aIndex P t vx vi = some v) (ha : cvV ν vx = some a) (hb : cvV ν vi = some b) :
    ∃ u, cvV ν v = some u ∧ ∀ w, (Instr.index t a b).run P w = .ok u w := by
  unfold aIndex at h
  split at h
  · rename_i len elem cs i hu hi
    obtain ⟨vs, rfl, hc⟩ := agg_of ha
    obtain ⟨k, rfl⟩ := vNat_of hi hb
    cases hz : sizeT P elem with
    | none => simp [hz] at h
    | some z =>
      simp only [hz] at h
      cases hl : Nat.blt i len with
      | false => simp [hl] at h
      | true =>
        simp only [hl, cond_true] at h
        have hlt : i < len := Nat.le_of_ble_eq_true hl
        obtain ⟨u, h1, h2⟩ := partT_run h hc
        exact ⟨u, h1, fun w => by simp [Instr.index, asIntOf, run_underlying hu, hlt, sizeT_run hz, h2]⟩
  · rename_i l i hu hi
    obtain rfl := str_of ha
    obtain ⟨k, rfl⟩ := vNat_of hi hb
    cases hg : l[i]? with
    | none => simp [hg] at h
    | some x =>
      simp only [hg, Option.map_some, Option.some.injEq] at h
      subst h
      refine ⟨_, rfl, fun w => ?_⟩
      have hlt : i < l.length := (List.getElem?_eq_some_iff.1 hg).1
      have hx : l[i] = x := (List.getElem?_eq_some_iff.1 hg).2
      have h1 : (ByteArray.mk l.toArray)[i]? = some x := by
        rw [getElem?_pos _ i (by simpa [ByteArray.size] using hlt)]
        simp [ByteArray.getElem_eq_getElem_data, hx]
      simp [Instr.index, asIntOf, run_underlying hu, h1]
  · cases h

theorem aExtract_ok {vx v : V} {i : Nat} {a : Value} (h : aExtract vx i = some v) (ha : cvV ν vx = some a) : ∃ u, cvV ν v = some u ∧ ∀ w, (Instr.extract a i).run P w = .ok u w := by
  unfold aExtract at h
  split at h
  · rename_i l
    simp only [cvV] at ha
    cases hl : cvWs ν l with
    | none => simp [hl] at ha
    | some vs =>
      simp only [hl, Option.some.injEq] at ha
      subst ha
      have key : ∀ {l : List W} {vs : List Value}, cvWs ν l = some vs → ∀ (i : Nat) (x : W), l[i]? = some x → ∃ u, vs[i]? = some u ∧ cvW ν x = some u := by
        intro l
        induction l with
        | nil => intro vs _ i x hx; simp at hx
        | cons y l ih =>
          intro vs hvs i x hx
          simp only [cvWs] at hvs
          cases h1 : cvW ν y with
          | none => simp [h1] at hvs
          | some u =>
            cases h2 : cvWs ν l with
            | none => simp [h1, h2] at hvs
            | some us =>
              simp only [h1, h2, Option.some.injEq] at hvs
              subst hvs
              cases i with
              | zero => simp only [List.getElem?_cons_zero, Option.some.injEq] at hx; subst hx; exact ⟨u, rfl, h1⟩
              | succ i => simp only [List.getElem?_cons_succ] at hx ⊢; exact ih h2 i x hx
      cases hg : l[i]? with
      | none => simp [hg] at h
      | some x =>
        simp only [hg, Option.map_some, Option.some.injEq] at h
        subst h
        obtain ⟨u, h1, h2⟩ := key hl i x hg
        exact ⟨u, h2, fun w => by simp [Instr.extract, h1]⟩
  · cases h

theorem aNilCheck_ok {vx v : V} {a : Value} (h : aNilCheck vx = some v) (ha : cvV ν vx = some a) (x : Operand) (ρ : Operand → Value) (hx : ρ x = a) (dst : Option Tmp) (t : TypeId) (pos : String) (af : Array Edge) (gd : Option (Nat × Bool)) :
    ∃ u, cvV ν v = some u ∧ ∀ w, (execOp ρ ⟨dst, .nilCheck x, t, pos, af, gd⟩).run P w = .ok (.value u) w := by
  unfold aNilCheck at h
  split at h
  · obtain ⟨y, hy, rfl⟩ := ptr_of ha
    simp only [Option.some.injEq] at h
    subst h
    exact ⟨_, ptr_mk _ hy, fun w => by simp [execOp, hx]⟩
  · obtain ⟨y, hy, rfl⟩ := sl_of ha
    simp only [Option.some.injEq] at h
    subst h
    exact ⟨_, sl_mk _ _ _ _ hy, fun w => by simp [execOp, hx]⟩
  · cases h

theorem aLen_ok {t : TypeId} {ts : Array TypeId} {ty : TypeId} {vx v : V} {a : Value} (h : aLen P t vx = some v) (ha : cvV ν vx = some a) (hts : ts[0]? = some t) : ∃ u, cvV ν v = some u ∧ ∀ w, (Builtin.len_ ts ty #[a]).run P w = .ok u w := by
  unfold aLen at h
  split at h
  · rename_i l hu
    obtain rfl := str_of ha
    simp only [Option.some.injEq] at h
    subst h
    exact ⟨_, rfl, fun w => by simp [Builtin.len_, hts, run_underlying hu, goInt]; rfl⟩
  · rename_i n e hu
    simp only [Option.some.injEq] at h
    subst h
    exact ⟨_, rfl, fun w => by simp [Builtin.len_, hts, run_underlying hu, goInt]⟩
  · rename_i e n off len c o hu
    obtain ⟨y, hy, rfl⟩ := sl_of ha
    simp only [Option.some.injEq] at h
    subst h
    exact ⟨_, rfl, fun w => by simp [Builtin.len_, hts, run_underlying hu, goInt]⟩
  · rename_i e n off d hu
    simp only [Option.some.injEq] at h
    subst h
    refine ⟨_, rfl, fun w => ?_⟩
    simp only [cvV, cvW, cvS] at ha
    cases hn : ν n with
    | none => simp [hn] at ha
    | some y =>
      simp only [hn, Option.some.injEq] at ha
      subst ha
      by_cases hy : y.2 = 0 <;> simp [hy, Builtin.len_, hts, run_underlying hu, goInt]
  · rename_i e hu
    obtain rfl := nsl_of ha
    simp only [Option.some.injEq] at h
    subst h
    exact ⟨_, rfl, fun w => by simp [Builtin.len_, hts, run_underlying hu, goInt]⟩
  · cases h

theorem aCap_ok {t : TypeId} {ts : Array TypeId} {ty : TypeId} {vx v : V} {a : Value} (h : aCap P t vx = some v) (ha : cvV ν vx = some a) (hts : ts[0]? = some t) : ∃ u, cvV ν v = some u ∧ ∀ w, (Builtin.cap_ ts ty #[a]).run P w = .ok u w := by
  unfold aCap at h
  split at h
  · rename_i e n off len c hu
    obtain ⟨y, hy, rfl⟩ := sl_of ha
    simp only [Option.some.injEq] at h
    subst h
    exact ⟨_, rfl, fun w => by simp [Builtin.cap_, hts, run_underlying hu, goInt]⟩
  · rename_i e hu
    obtain rfl := nsl_of ha
    simp only [Option.some.injEq] at h
    subst h
    exact ⟨_, rfl, fun w => by simp [Builtin.cap_, hts, run_underlying hu, goInt]⟩
  · cases h

theorem two_of {x y : V} {vs : List Value} (h : [x, y].map (cvV ν) = vs.map some) : ∃ a b, vs = [a, b] ∧ cvV ν x = some a ∧ cvV ν y = some b := by
  match vs, h with
  | [a, b], h => simp only [List.map_cons, List.map_nil, List.cons.injEq, and_true] at h; exact ⟨a, b, rfl, h.1, h.2⟩
  | [], h => simp at h
  | [_], h => simp at h
  | _ :: _ :: _ :: _, h => simp at h

theorem one_of {x : V} {vs : List Value} (h : [x].map (cvV ν) = vs.map some) : ∃ a, vs = [a] ∧ cvV ν x = some a := by
  match vs, h with
  | [a], h => simp only [List.map_cons, List.map_nil, List.cons.injEq, and_true] at h; exact ⟨a, rfl, h⟩
  | [], h => simp at h
  | _ :: _ :: _, h => simp at h

theorem aMin2_ok {l : List V} {v : V} {vs : Array Value} {ts : Array TypeId} {ty : TypeId} (h : aMin2 l = some v) (hl : l.map (cvV ν) = vs.toList.map some) : ∃ u, cvV ν v = some u ∧ ∀ w, (Builtin.min_ ts ty vs).run P w = .ok u w := by
  unfold aMin2 at h
  split at h
  · obtain ⟨a, b, hvs, ha, hb⟩ := two_of hl
    obtain rfl := int_of ha
    obtain rfl := int_of hb
    simp only [Option.some.injEq] at h
    subst h
    exact ⟨_, rfl, fun w => by simp [Builtin.min_, hvs, Builtin.min2]⟩
  · cases h

theorem aMax2_ok {l : List V} {v : V} {vs : Array Value} {ts : Array TypeId} {ty : TypeId} (h : aMax2 l = some v) (hl : l.map (cvV ν) = vs.toList.map some) : ∃ u, cvV ν v = some u ∧ ∀ w, (Builtin.max_ ts ty vs).run P w = .ok u w := by
  unfold aMax2 at h
  split at h
  · obtain ⟨a, b, hvs, ha, hb⟩ := two_of hl
    obtain rfl := int_of ha
    obtain rfl := int_of hb
    simp only [Option.some.injEq] at h
    subst h
    exact ⟨_, rfl, fun w => by simp [Builtin.max_, hvs, Builtin.max2]⟩
  · cases h

end
end Ai
end Go.Proofs.YtjmhkcfdmcjilaaGreat
namespace Go.Proofs.YtjmhkcfdmcjilaaGreat
namespace Ai
open Go.RowKit
section
variable {P : Program} {ν : Nu}

/-- An operand that may be none. -/
def OptR (ν : Nu) : Option V → Option Value → Prop
  | none, none => True
  | some x, some v => cvV ν x = some v
  | _, _ => False

theorem bound_run {y : Nat} {x : V} {v : Value} {i : Nat} {code : BoundsCode} (h : vNat x = some i) (hv : cvV ν x = some v) (hi : i ≤ y) (w : World) : (Instr.sliceBound v y code).run P w = .ok i w := by
  obtain ⟨k, rfl⟩ := vNat_of h hv
  simp [Instr.sliceBound, asIntOf, hi]

theorem aBounds_ok {isSlice : Bool} {len cap cap' : Nat} {lo hi mx : Option V} {l h m : Nat} {vlo vhi vmx : Option Value} (e : aBounds len cap lo hi mx = some (l, h, m)) (hc : cap ≤ cap')
    (r1 : OptR ν lo vlo) (r2 : OptR ν hi vhi) (r3 : OptR ν mx vmx) (w : World) :
    (Instr.sliceBounds isSlice len cap' vlo vhi vmx).run P w = .ok (l, h, if mx = none then cap' else m) w := by
  unfold aBounds at e
  cases mx with
  | none =>
    cases vmx with
    | some _ => exact r3.elim
    | none =>
      simp only at e
      cases hi with
      | none =>
        cases vhi with
        | some _ => exact r2.elim
        | none =>
          simp only at e
          cases lo with
          | none =>
            cases vlo with
            | some _ => exact r1.elim
            | none =>
              simp only [Option.some.injEq, Prod.mk.injEq] at e
              obtain ⟨rfl, rfl, rfl⟩ := e
              simp [Instr.sliceBounds]
          | some x =>
            cases vlo with
            | none => exact r1.elim
            | some vx =>
              simp only at e
              cases hx : vNat x with
              | none => simp [hx] at e
              | some i =>
                simp only [hx] at e
                cases hb : Nat.ble i len with
                | false => simp [hb] at e
                | true =>
                  simp only [hb, cond_true, Option.some.injEq, Prod.mk.injEq] at e
                  obtain ⟨rfl, rfl, rfl⟩ := e
                  simp [Instr.sliceBounds, bound_run hx r1 (Nat.le_of_ble_eq_true hb)]
      | some z =>
        cases vhi with
        | none => exact r2.elim
        | some vz =>
          simp only at e
          cases hz : vNat z with
          | none => simp [hz] at e
          | some j =>
            simp only [hz] at e
            cases hb : Nat.ble j cap with
            | false => simp [hb] at e
            | true =>
              have hj := Nat.le_of_ble_eq_true hb
              simp only [hb, cond_true] at e
              cases lo with
              | none =>
                cases vlo with
                | some _ => exact r1.elim
                | none =>
                  simp only [Option.some.injEq, Prod.mk.injEq] at e
                  obtain ⟨rfl, rfl, rfl⟩ := e
                  simp [Instr.sliceBounds, bound_run hz r2 (Nat.le_trans hj hc)]
              | some x =>
                cases vlo with
                | none => exact r1.elim
                | some vx =>
                  simp only at e
                  cases hx : vNat x with
                  | none => simp [hx] at e
                  | some i =>
                    simp only [hx] at e
                    cases hb' : Nat.ble i j with
                    | false => simp [hb'] at e
                    | true =>
                      simp only [hb', cond_true, Option.some.injEq, Prod.mk.injEq] at e
                      obtain ⟨rfl, rfl, rfl⟩ := e
                      simp [Instr.sliceBounds, bound_run hz r2 (Nat.le_trans hj hc), bound_run hx r1 (Nat.le_of_ble_eq_true hb')]
  | some y =>
    cases vmx with
    | none => exact r3.elim
    | some vy =>
      simp only at e
      cases hy : vNat y with
      | none => simp [hy] at e
      | some q =>
        simp only [hy] at e
        cases hq : Nat.ble q cap with
        | false => simp [hq] at e
        | true =>
          have hq' := Nat.le_trans (Nat.le_of_ble_eq_true hq) hc
          simp only [hq, cond_true] at e
          cases hi with
          | none => simp at e
          | some z =>
            cases vhi with
            | none => exact r2.elim
            | some vz =>
              simp only at e
              cases hz : vNat z with
              | none => simp [hz] at e
              | some j =>
                simp only [hz] at e
                cases hb : Nat.ble j q with
                | false => simp [hb] at e
                | true =>
                  have hj := Nat.le_of_ble_eq_true hb
                  simp only [hb, cond_true] at e
                  cases lo with
                  | none =>
                    cases vlo with
                    | some _ => exact r1.elim
                    | none =>
                      simp only [Option.some.injEq, Prod.mk.injEq] at e
                      obtain ⟨rfl, rfl, rfl⟩ := e
                      simp [Instr.sliceBounds, bound_run hy r3 hq', bound_run hz r2 hj]
                  | some x =>
                    cases vlo with
                    | none => exact r1.elim
                    | some vx =>
                      simp only at e
                      cases hx : vNat x with
                      | none => simp [hx] at e
                      | some i =>
                        simp only [hx] at e
                        cases hb' : Nat.ble i j with
                        | false => simp [hb'] at e
                        | true =>
                          simp only [hb', cond_true, Option.some.injEq, Prod.mk.injEq] at e
                          obtain ⟨rfl, rfl, rfl⟩ := e
                          simp [Instr.sliceBounds, bound_run hy r3 hq', bound_run hz r2 hj, bound_run hx r1 (Nat.le_of_ble_eq_true hb')]

theorem roomOf_eq (c m : Nat) (mx : Option V) : roomOf c m mx = if mx = none then c else m := by cases mx <;> rfl

theorem beq_dec (a b : Nat) : Nat.beq a b = decide (a = b) := by
  cases h : Nat.beq a b with
  | true => simp [Nat.eq_of_beq_eq_true h]
  | false => simp [Nat.ne_of_beq_eq_false h]

theorem ble_dec (a b : Nat) : Nat.ble a b = decide (a ≤ b) := by
  by_cases h : a ≤ b
  · simp [h, Nat.ble_eq_true_of_le h]
  · have : ¬ Nat.ble a b = true := fun e => h (Nat.le_of_ble_eq_true e)
    simp [h, this]

theorem se_mk {n : Nat} {y : Nat × Nat} (off d : Nat) (h : ν n = some y) :
    cvV ν (.w (.s (.se n off d))) = some (if y.2 = 0 then .slice (some ⟨y.1, off, none⟩) 0 0 else .slice (some ((⟨y.1, off, none⟩ : Addr).add d)) 0 y.2) := by
  simp [cvV, cvW, cvS, h]

theorem aSlice_ok {t : TypeId} {vx v : V} {lo hi mx : Option V} {a : Value} {vlo vhi vmx : Option Value} (e : aSlice P t vx lo hi mx = some v) (ha : cvV ν vx = some a)
    (r1 : OptR ν lo vlo) (r2 : OptR ν hi vhi) (r3 : OptR ν mx vmx) : ∃ u, cvV ν v = some u ∧ ∀ w, (Instr.sliceAt t a vlo vhi vmx).run P w = .ok u w := by
  unfold aSlice at e
  split at e
  · rename_i s hu
    obtain rfl := str_of ha
    cases mx with
    | some _ => simp at e
    | none =>
      cases vmx with
      | some _ => exact r3.elim
      | none =>
        simp only at e
        cases hb : aBounds s.length s.length lo hi none with
        | none => simp [hb] at e
        | some q =>
          obtain ⟨l, h, m⟩ := q
          simp only [hb, Option.some.injEq] at e
          subst e
          refine ⟨_, rfl, fun w => ?_⟩
          have hr := aBounds_ok (P := P) (ν := ν) (isSlice := false) hb (Nat.le_refl _) r1 r2 (vmx := none) trivial w
          simp only [if_true] at hr
          have hs : (ByteArray.mk s.toArray).size = s.length := rfl
          simp only [Instr.sliceAt, Instr.slice, Sem.run_bind, run_underlying hu, Result.andThen_ok, Option.isSome_none, Bool.false_eq_true, if_false, hs, hr, Sem.run_pure]
          congr 2
          apply ByteArray.ext
          apply Array.ext'
          simp [ByteArray.data_extract, List.extract_eq_take_drop]
  · rename_i elem hu
    obtain rfl := nsl_of ha
    cases hz : sizeT P elem with
    | none => simp [hz] at e
    | some z =>
      simp only [hz] at e
      cases hb : aBounds 0 0 lo hi mx with
      | none => simp [hb] at e
      | some q =>
        obtain ⟨l, h, m⟩ := q
        simp only [hb, beq_dec] at e
        by_cases hl : l = 0
        · by_cases hh : h = 0
          · by_cases hm : roomOf 0 m mx = 0
            · simp only [hl, hh, hm, decide_true, Bool.and_self, cond_true, Option.some.injEq] at e
              subst e
              refine ⟨_, rfl, fun w => ?_⟩
              have hr := aBounds_ok (P := P) (ν := ν) (isSlice := true) hb (Nat.le_refl _) r1 r2 r3 w
              rw [← roomOf_eq, hm] at hr
              simp [Instr.sliceAt, Instr.slice, run_underlying hu, hr, sizeT_run hz, hl, hh]
            · simp [hm] at e
          · simp [hh] at e
        · simp [hl] at e
  · rename_i elem n off len c o hu
    obtain ⟨y, hy, rfl⟩ := sl_of ha
    cases hz : sizeT P elem with
    | none => simp [hz] at e
    | some z =>
      simp only [hz] at e
      cases hb : aBounds len c lo hi mx with
      | none => simp [hb] at e
      | some q =>
        obtain ⟨l, h, m⟩ := q
        have hcap : c ≤ cond o (c + y.2) c := by cases o <;> simp
        have hr := fun w => aBounds_ok (P := P) (ν := ν) (isSlice := true) hb hcap r1 r2 r3 w
        simp only [hb, ble_dec, beq_dec] at e
        cases hlh : (decide (l ≤ h) && decide (h ≤ roomOf c m mx)) with
        | false => simp [hlh] at e
        | true =>
          simp only [hlh, cond_true] at e
          simp only [Bool.and_eq_true, decide_eq_true_eq] at hlh
          obtain ⟨h1, h2⟩ := hlh
          cases hom : (o && mx.isNone) with
          | true =>
            simp only [Bool.and_eq_true, Option.isNone_iff_eq_none] at hom
            obtain ⟨ho, hmx⟩ := hom
            subst ho; subst hmx
            simp only [roomOf] at h2
            simp only [Option.isNone_none, Bool.and_self, cond_true] at e
            simp only [cond_true, if_true] at hr
            by_cases hlc : l = c
            · simp only [hlc, decide_true, cond_true, Option.some.injEq] at e
              subst e
              refine ⟨_, se_mk off (c * z) hy, fun w => ?_⟩
              have hh : h = c := by omega
              simp only [Instr.sliceAt, Instr.slice, Sem.run_bind, run_underlying hu, Result.andThen_ok, cond_true, hr, sizeT_run hz, Sem.run_pure, hlc, hh]
              by_cases hy2 : y.2 = 0
              · simp [hy2]
              · have : ¬ c + y.2 = c := by omega
                simp [hy2]
            · simp only [hlc, decide_false, cond_false, Option.some.injEq] at e
              subst e
              refine ⟨_, sl_mk _ _ _ _ hy, fun w => ?_⟩
              have hne : ¬ c + y.2 = l := by omega
              simp only [Instr.sliceAt, Instr.slice, Sem.run_bind, run_underlying hu, Result.andThen_ok, cond_true, hr, sizeT_run hz, Sem.run_pure, if_neg hne, Option.map_some, add_addr]
              have : c + y.2 - l = c - l + y.2 := by omega
              rw [this]
          | false =>
            simp only [hom, cond_false, Option.some.injEq] at e
            subst e
            refine ⟨_, sl_mk _ _ _ _ hy, fun w => ?_⟩
            have hm : (if mx = none then (cond o (c + y.2) c) else m) = roomOf c m mx := by
              cases mx with
              | none => simp only [Option.isNone_none, Bool.and_true] at hom; subst hom; simp [roomOf]
              | some _ => simp [roomOf]
            simp only [hm] at hr
            simp only [Instr.sliceAt, Instr.slice, Sem.run_bind, run_underlying hu, Result.andThen_ok, hr, sizeT_run hz, Sem.run_pure, cond_false]
            by_cases hml : roomOf c m mx = l
            · simp [hml]
            · simp [hml, add_addr]
  · rename_i n elem b off hu
    obtain ⟨y, hy, rfl⟩ := ptr_of ha
    cases hz : sizeT P elem with
    | none => simp [hz] at e
    | some z =>
      simp only [hz] at e
      cases hb : aBounds n n lo hi mx with
      | none => simp [hb] at e
      | some q =>
        obtain ⟨l, h, m⟩ := q
        have hr := fun w => aBounds_ok (P := P) (ν := ν) (isSlice := false) hb (Nat.le_refl _) r1 r2 r3 w
        simp only [← roomOf_eq] at hr
        simp only [hb, beq_dec, Option.some.injEq] at e
        subst e
        refine ⟨_, sl_mk _ _ _ _ hy, fun w => ?_⟩
        simp only [Instr.sliceAt, Sem.run_bind, run_underlying hu, Result.andThen_ok, Instr.sureAddr, Sem.run_pure, hr, sizeT_run hz, cond_false]
        by_cases hml : roomOf n m mx = l
        · simp [hml]
        · simp [hml, add_addr]
  · cases e

/-! ### Structs and arrays that are built -/

theorem put_cells (cs : Array Value) (off : Nat) : ∀ (vs : List Value) (j : Nat) (pre : Array Value), pre.size = cs.size → off + j + vs.length ≤ cs.size →
    ((vs.zipIdx j).foldl (fun (cs : Array Value) (p : Value × Nat) => cs.setIfInBounds (off + p.2) p.1) pre).toList = pre.toList.take (off + j) ++ (vs ++ pre.toList.drop (off + j + vs.length))
  | [], j, pre, _, _ => by simp
  | v :: vs, j, pre, hp, h => by
    simp only [List.length_cons] at h
    simp only [List.zipIdx_cons, List.foldl_cons]
    rw [put_cells cs off vs (j + 1) _ (by rw [Array.size_setIfInBounds]; exact hp) (by omega)]
    simp only [Array.toList_setIfInBounds]
    have h1 : off + (j + 1) = off + j + 1 := by omega
    have h2 : off + j < pre.toList.length := by rw [Array.length_toList]; omega
    rw [h1, List.take_add_one]
    have h3 : (pre.toList.set (off + j) v)[off + j]? = some v := by rw [List.getElem?_set_self h2]
    rw [h3, List.take_set_of_le (Nat.le_refl _), List.drop_set_of_lt (by omega)]
    simp only [Option.toList_some, List.append_assoc, List.length_cons, List.cons_append, List.nil_append]
    have h4 : off + j + 1 + vs.length = off + j + (vs.length + 1) := by omega
    rw [h4]

theorem cells_w {x : W} {v : Value} (h : cvW ν x = some v) : v.cells.size = x.cells.length := by
  have := cvL_length (cells_cv h)
  simpa using this

theorem aFill_ok {place : Nat → Option (Nat × Nat)} : ∀ {parts : List (Nat × V)} {ps : List (Nat × Value)} {cells : List S} {cs : Array Value} {out : List S},
    aFill place cells parts = some out → cvL ν cells = some cs.toList → parts.map (fun p => (p.1, cvV ν p.2)) = ps.map (fun p => (p.1, some p.2)) →
    ∃ us : Array Value, Instr.fill place cs ps = some us ∧ cvL ν out = some us.toList
  | [], ps, cells, cs, out, h, hc, hp => by
    simp only [aFill, Option.some.injEq] at h
    subst h
    cases ps with
    | nil => exact ⟨cs, rfl, hc⟩
    | cons p ps => simp at hp
  | (i, v) :: parts, ps, cells, cs, out, h, hc, hp => by
    cases ps with
    | nil => simp at hp
    | cons p ps =>
      obtain ⟨i', u⟩ := p
      simp only [List.map_cons, List.cons.injEq, Prod.mk.injEq] at hp
      obtain ⟨⟨rfl, hv⟩, hp⟩ := hp
      simp only [aFill] at h
      split at h
      · rename_i off z x hpl
        cases hcond : (Nat.beq x.cells.length z && Nat.ble (off + z) cells.length) with
        | false => simp [hcond] at h
        | true =>
          simp only [hcond, cond_true] at h
          simp only [beq_dec, ble_dec, Bool.and_eq_true, decide_eq_true_eq] at hcond
          obtain ⟨h1, h2⟩ := hcond
          have hu : cvW ν x = some u := hv
          have hsz := cells_w hu
          have hlen := cvL_length hc
          have hcell : cvL ν (cells.take off ++ (x.cells ++ cells.drop (off + z))) = some ((u.cells.zipIdx.foldl (fun (cs : Array Value) (p : Value × Nat) => cs.setIfInBounds (off + p.2) p.1) cs)).toList := by
            rw [← Array.foldl_toList, Array.toList_zipIdx]
            rw [put_cells cs off u.cells.toList 0 cs rfl (by simp at hlen ⊢; omega)]
            have e1 : off + 0 = off := by omega
            have e2 : u.cells.toList.length = z := by simp; omega
            rw [e1, e2]
            exact cvL_append (cvL_take off hc) (cvL_append (cells_cv hu) (cvL_drop (off + z) hc))
          obtain ⟨us, h3, h4⟩ := aFill_ok h hcell hp
          refine ⟨us, ?_, h4⟩
          simp only [Instr.fill, hpl]
          have hno : ¬ (u.cells.size ≠ z ∨ off + u.cells.size > cs.size) := by
            simp at hlen
            omega
          rw [if_neg (by simpa using hno)]
          exact h3
      · cases h

theorem fields_places (fs : Array Field) (hs : sized P fs = true) (w : World) :
    ∃ pl : Array (Nat × Nat), (fs.mapM (m := Sem) fun f => do pure (f.offset, ← sizeOf f.type)).run P w = .ok pl w ∧ ∀ i, pl[i]? = placeOf P fs i := by
  have key : ∀ (l : List Field), (l.all fun f => (sizeT P f.type).isSome) = true → ∃ pl : List (Nat × Nat), (l.mapM (m := Sem) fun f => do pure (f.offset, ← sizeOf f.type)).run P w = .ok pl w ∧
      ∀ i : Nat, pl[i]? = (match l[i]? with | some f => (sizeT P f.type).map fun z => (f.offset, z) | none => none) := by
    intro l
    induction l with
    | nil => intro _; exact ⟨[], by simp, fun i => by simp⟩
    | cons f l ih =>
      intro h
      simp only [List.all_cons, Bool.and_eq_true] at h
      obtain ⟨pl, h1, h2⟩ := ih h.2
      cases hz : sizeT P f.type with
      | none => simp [hz] at h
      | some z =>
        refine ⟨(f.offset, z) :: pl, ?_, fun i => ?_⟩
        · simp only [List.mapM_cons, Sem.run_bind, sizeT_run hz, Result.andThen_ok, Sem.run_pure, h1]
        · cases i with
          | zero => simp [hz]
          | succ i => simpa using h2 i
  obtain ⟨pl, h1, h2⟩ := key fs.toList hs
  refine ⟨pl.toArray, ?_, fun i => ?_⟩
  · rw [Array.mapM_eq_mapM_toList, Sem.run_map, h1]
    rfl
  · have := h2 i
    rw [List.getElem?_toArray, this]
    unfold placeOf
    rw [← Array.getElem?_toList]
    cases fs.toList[i]? <;> rfl

theorem aBuild_ok {t : TypeId} {parts : List (Nat × V)} {ps : Array (Nat × Value)} {v : V} (h : aBuild P t parts = some v) (hp : parts.map (fun p => (p.1, cvV ν p.2)) = ps.toList.map (fun p => (p.1, some p.2))) :
    ∃ u, cvV ν v = some u ∧ ∀ w, (Instr.build t ps).run P w = .ok u w := by
  unfold aBuild at h
  split at h
  · rename_i fs z hu hz
    cases hs : sized P fs with
    | false => simp [hs] at h
    | true =>
      simp only [hs, cond_true] at h
      cases hf : aFill (placeOf P fs) z parts with
      | none => simp [hf] at h
      | some out =>
        simp only [hf, Option.map_some, Option.some.injEq] at h
        subst h
        obtain ⟨zv, hz1, hz2⟩ := zeroC_run hz
        obtain ⟨us, h1, h2⟩ := aFill_ok hf (hz2 ν) hp
        refine ⟨_, agg_mk h2, fun w => ?_⟩
        obtain ⟨pl, hp1, hp2⟩ := fields_places (P := P) fs hs w
        have he : (fun i => pl[i]?) = placeOf P fs := funext hp2
        simp only [Instr.build, Sem.run_bind, hz1, Result.andThen_ok, run_underlying hu, hp1]
        rw [he, h1]
        simp
  · rename_i n elem z hu hz
    cases hs : sizeT P elem with
    | none => simp [hs] at h
    | some s =>
      simp only [hs] at h
      cases hf : aFill (fun i => some (i * s, s)) z parts with
      | none => simp [hf] at h
      | some out =>
        simp only [hf, Option.map_some, Option.some.injEq] at h
        subst h
        obtain ⟨zv, hz1, hz2⟩ := zeroC_run hz
        obtain ⟨us, h1, h2⟩ := aFill_ok hf (hz2 ν) hp
        refine ⟨_, agg_mk h2, fun w => ?_⟩
        simp only [Instr.build, Sem.run_bind, hz1, Result.andThen_ok, run_underlying hu, sizeT_run hs]
        rw [h1]
        simp
  · cases h

/-! ### Closures, interfaces -/

theorem asC_ok {x : V} {c : C} {v : Value} (h : asC x = some c) (hv : cvV ν x = some v) : cvC ν c = some v := by
  unfold asC at h
  split at h
  · simp only [Option.some.injEq] at h
    subst h
    obtain ⟨y, hy, rfl⟩ := ptr_of hv
    simp [cvC, hy]
  · simp only [Option.some.injEq] at h
    subst h
    obtain rfl := int_of hv
    rfl
  · cases h

theorem asCs_ok : ∀ {l : List V} {cs : List C} {vs : List Value}, asCs l = some cs → l.map (cvV ν) = vs.map some → cvCs ν cs = some vs
  | [], cs, vs, h, hv => by
    simp only [asCs, Option.some.injEq] at h
    subst h
    cases vs with
    | nil => rfl
    | cons _ _ => simp at hv
  | x :: l, cs, vs, h, hv => by
    cases vs with
    | nil => simp at hv
    | cons v vs =>
      simp only [List.map_cons, List.cons.injEq] at hv
      simp only [asCs] at h
      cases h1 : asC x with
      | none => simp [h1] at h
      | some c =>
        cases h2 : asCs l with
        | none => simp [h1, h2] at h
        | some ds =>
          simp only [h1, h2, Option.some.injEq] at h
          subst h
          simp [cvCs, asC_ok h1 hv.1, asCs_ok h2 hv.2]

theorem aMakeInterface_ok {t : TypeId} {vx v : V} {a : Value} (h : aMakeInterface P t vx = some v) (ha : cvV ν vx = some a) : ∃ u, cvV ν v = some u ∧ ∀ w, (Instr.makeInterface t a).run P w = .ok u w := by
  unfold aMakeInterface at h
  split at h
  · cases h
  · rename_i d hd hu
    cases hc : asC vx with
    | none => simp [hc] at h
    | some c =>
      simp only [hc, Option.map_some, Option.some.injEq] at h
      subst h
      refine ⟨.iface t a, by simp [cvV, cvW, cvS, asC_ok hc ha], fun w => ?_⟩
      simp only [Instr.makeInterface, Sem.run_bind, run_underlying hu, Result.andThen_ok]
      rfl
  · cases h

theorem evs_opt {f : F} {a : Act} (r : FR ν f a.tmps) {x : Option Operand} {l : List V} (h : f.evs x.toList = some l) : OptR ν l.head? (x.map a.eval) := by
  have hm := evs_map r h
  cases x with
  | none =>
    cases l with
    | nil => trivial
    | cons _ _ => simp at hm
  | some x =>
    cases l with
    | nil => simp at hm
    | cons v l =>
      simp only [Option.toList_some, List.map_cons, List.map_nil, List.cons.injEq] at hm
      exact hm.1

theorem args_of {f : F} {a : Act} (r : FR ν f a.tmps) {xs : Array Operand} {l : List V} (h : f.evs xs.toList = some l) : l.map (cvV ν) = (xs.map a.eval).toList.map some := by
  rw [evs_map r h]; simp

theorem pure_ok {f : F} {a : Act} (r : FR ν f a.tmps) {o : Oper} {v : V} (h : aPure P f o.op = some v) : ∃ u, cvV ν v = some u ∧ ∀ w, (execOp a.eval o).run P w = .ok (.value u) w := by
  obtain ⟨dst, op, ty, pos, af, gd⟩ := o
  simp only at h
  unfold aPure at h
  split at h
  · exact ⟨_, ev_ok r h, fun w => by simp [execOp]⟩
  · exact ⟨_, ev_ok r h, fun w => by simp [execOp]⟩
  · rename_i c x y
    split at h
    · rename_i t ht
      have hc := bool_of (ev_ok r ht)
      split at h
      · rename_i va vb h1 h2
        simp only [Option.some.injEq] at h
        subst h
        cases t with
        | true => exact ⟨_, ev_ok r h1, fun w => by simp [execOp, hc, asBool]⟩
        | false => exact ⟨_, ev_ok r h2, fun w => by simp [execOp, hc, asBool]⟩
      · cases h
    · cases h
  · rename_i op t x y yt
    split at h
    · rename_i va vb h1 h2
      obtain ⟨u, hu, hr⟩ := aBin_ok h (ev_ok r h1) (ev_ok r h2)
      exact ⟨u, hu, fun w => by simp only [execOp, Sem.run_bind]; have := hr w; simp only [Sem.run_bind] at this; rw [this]; rfl⟩
    · cases h
  · rename_i op t x
    split at h
    · rename_i va h1
      obtain ⟨u, hu, hr⟩ := aUn_ok (P := P) h (ev_ok r h1)
      exact ⟨u, hu, fun w => by simp [execOp, hr]⟩
    · cases h
  · rename_i s d x
    split at h
    · rename_i va h1
      obtain ⟨u, hu, hr⟩ := aConv_ok h (ev_ok r h1)
      exact ⟨u, hu, fun w => by simp [execOp, hr]⟩
    · cases h
  · rename_i s x fi
    split at h
    · rename_i va h1
      obtain ⟨u, hu, hr⟩ := aFieldAddr_ok h (ev_ok r h1)
      exact ⟨u, hu, fun w => by simp [execOp, hr]⟩
    · cases h
  · rename_i t x fi
    split at h
    · rename_i va h1
      obtain ⟨u, hu, hr⟩ := aField_ok h (ev_ok r h1)
      exact ⟨u, hu, fun w => by simp [execOp, hr]⟩
    · cases h
  · rename_i t x i
    split at h
    · rename_i va vb h1 h2
      obtain ⟨u, hu, hr⟩ := aIndexAddr_ok h (ev_ok r h1) (ev_ok r h2)
      exact ⟨u, hu, fun w => by simp [execOp, hr]⟩
    · cases h
  · rename_i t x i
    split at h
    · rename_i va vb h1 h2
      obtain ⟨u, hu, hr⟩ := aIndex_ok h (ev_ok r h1) (ev_ok r h2)
      exact ⟨u, hu, fun w => by simp [execOp, hr]⟩
    · cases h
  · rename_i t x lo hi mx
    split at h
    · rename_i va h1
      split at h
      · rename_i l1 l2 l3 e1 e2 e3
        obtain ⟨u, hu, hr⟩ := aSlice_ok h (ev_ok r h1) (evs_opt r e1) (evs_opt r e2) (evs_opt r e3)
        exact ⟨u, hu, fun w => by simp [execOp, hr]⟩
      · cases h
    · cases h
  · rename_i x i
    split at h
    · rename_i va h1
      obtain ⟨u, hu, hr⟩ := aExtract_ok (P := P) h (ev_ok r h1)
      exact ⟨u, hu, fun w => by simp [execOp, hr]⟩
    · cases h
  · rename_i t ps
    split at h
    · rename_i l h1
      have h2 := evp_ok r h1
      obtain ⟨u, hu, hr⟩ := aBuild_ok (ps := ps.map fun (i, x) => (i, a.eval x)) h (by rw [h2]; simp)
      exact ⟨u, hu, fun w => by simp [execOp, hr]⟩
    · cases h
  · rename_i t x
    split at h
    · rename_i va h1
      obtain ⟨u, hu, hr⟩ := aMakeInterface_ok h (ev_ok r h1)
      exact ⟨u, hu, fun w => by simp [execOp, hr]⟩
    · cases h
  · rename_i g first captured
    split at h
    · rename_i l hfirst h1
      split at h
      · rename_i cs hcs
        simp only [Option.some.injEq] at h
        subst h
        have h2 := asCs_ok hcs (args_of r h1)
        have hf : first = #[] := by apply Array.ext'; simpa using hfirst
        refine ⟨.func (.func g) #[] (captured.map a.eval), ?_, fun w => by simp [execOp, Instr.makeFunc, hf]⟩
        simp only [cvV, cvW, cvS, h2, Array.toArray_toList]
      · cases h
    · cases h
  · rename_i x
    split at h
    · rename_i va h1
      exact aNilCheck_ok h (ev_ok r h1) x a.eval rfl dst ty pos af gd
    · cases h
  · rename_i b args argTypes
    split at h
    · rename_i l t ts h1 h2
      have hargs := args_of r h1
      have hts : argTypes[0]? = some t := by rw [← Array.getElem?_toList, h2]; rfl
      split at h
      · rename_i x
        obtain ⟨v1, hv, hx⟩ := one_of hargs
        obtain ⟨u, hu, hr⟩ := aLen_ok (ty := ty) h hx hts
        have he : args.map a.eval = #[v1] := by apply Array.ext'; simpa using hv
        exact ⟨u, hu, fun w => by simp [execOp, resolve, invoke, builtin, he, hr]⟩
      · rename_i x
        obtain ⟨v1, hv, hx⟩ := one_of hargs
        obtain ⟨u, hu, hr⟩ := aCap_ok (ty := ty) h hx hts
        have he : args.map a.eval = #[v1] := by apply Array.ext'; simpa using hv
        exact ⟨u, hu, fun w => by simp [execOp, resolve, invoke, builtin, he, hr]⟩
      · obtain ⟨u, hu, hr⟩ := aMin2_ok (P := P) (ts := argTypes) (ty := ty) h hargs
        exact ⟨u, hu, fun w => by simp [execOp, resolve, invoke, builtin, hr]⟩
      · obtain ⟨u, hu, hr⟩ := aMax2_ok (P := P) (ts := argTypes) (ty := ty) h hargs
        exact ⟨u, hu, fun w => by simp [execOp, resolve, invoke, builtin, hr]⟩
      · cases h
    · cases h
  · cases h

end
end Ai
end Go.Proofs.YtjmhkcfdmcjilaaGreat
