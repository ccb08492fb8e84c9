/-
  Plain: what inserting a node, taking the first one out and removing one make of a tree.
-/
import Derived.Test.YtjmhkcfdmcjilaaGreatLoB
set_option linter.unusedVariables false
set_option linter.unusedSimpArgs false
namespace Go.Proofs.YtjmhkcfdmcjilaaGreat
namespace Lo

/-- All links fit into 32 bits. -/
def LB (A : Ar) : Prop := ∀ j, (A.get j).l < 4294967296 ∧ (A.get j).r < 4294967296

theorem Rep.root_lt {A : Ar} : ∀ {T : Tr}, Rep A T → T.root < 513
  | .nil, _ => by decide
  | .node i _ _ _ _ _, h => h.2.1

theorem rep_bounds {A : Ar} : ∀ {T : Tr}, Rep A T → ∀ j ∈ ids T.xs, (A.get j).l < 513 ∧ (A.get j).r < 513 ∧ 0 ≤ (A.get j).h ∧ (A.get j).h ≤ T.xs.length
  | .nil, _, j, hj => by simp [Tr.xs, ids] at hj
  | .node i l r b n p, h, j, hj => by
    have hg := h.get
    obtain ⟨h1, h2, h3, h4, h5, h6⟩ := h
    have hlen : (Tr.node i l r b n p).xs.length = l.xs.length + r.xs.length + 1 := by simp [Tr.xs]; omega
    simp only [Tr.xs, ids_append, ids_cons, List.mem_append, List.mem_cons] at hj
    rw [hlen]
    rcases hj with hj | rfl | hj
    · obtain ⟨a, b, c, d⟩ := rep_bounds h5 j hj
      exact ⟨a, b, c, by omega⟩
    · rw [hg]
      have a := l.ht_nonneg
      have b := r.ht_nonneg
      have c := l.ht_le
      have d := r.ht_le
      exact ⟨h5.root_lt, h6.root_lt, by show 0 ≤ 1 + max l.ht r.ht; omega, by show 1 + max l.ht r.ht ≤ _; omega⟩
    · obtain ⟨a, b, c, d⟩ := rep_bounds h6 j hj
      exact ⟨a, b, c, by omega⟩

theorem kept_bounds {A A' : Ar} {js : List Nat} {T : Tr} (hk : Kept A A' js) (hr : Rep A' T) (hs : ∀ j ∈ js, j ∈ ids T.xs) (hL : LB A) (hH : HB A 600) (hn : T.xs.length ≤ 600) : LB A' ∧ HB A' 600 := by
  constructor
  · intro j
    by_cases hj : j ∈ js
    · have := rep_bounds hr j (hs j hj); omega
    · rw [hk.get hj]; exact hL j
  · intro j
    by_cases hj : j ∈ js
    · have := rep_bounds hr j (hs j hj); omega
    · rw [hk.get hj]; exact hH j

def Sorted (xs : List Id3) : Prop := xs.Pairwise fun a b => a.b < b.b

/-- A' with T' is what A with T has become by the node x. -/
def Ins (A A' : Ar) (T T' : Tr) (x : Id3) : Prop :=
  Rep A' T' ∧ Kept A A' (x.i :: ids T.xs) ∧ ∃ ys zs, T.xs = ys ++ zs ∧ T'.xs = ys ++ x :: zs ∧ (∀ y ∈ ys, y.b ≤ x.b) ∧ ∀ z ∈ zs, x.b < z.b

theorem Ins.ids {A A' : Ar} {T T' : Tr} {x : Id3} (h : Ins A A' T T' x) (j : Nat) : j ∈ ids T'.xs ↔ j = x.i ∨ j ∈ Lo.ids T.xs := by
  obtain ⟨-, -, ys, zs, h1, h2, -⟩ := h
  rw [h1, h2]
  simp only [ids_append, ids_cons, List.mem_append, List.mem_cons]
  constructor
  · rintro (h | h | h)
    · exact .inr (.inl h)
    · exact .inl h
    · exact .inr (.inr h)
  · rintro (h | h | h)
    · exact .inr (.inl h)
    · exact .inl h
    · exact .inr (.inr h)

theorem Ins.len {A A' : Ar} {T T' : Tr} {x : Id3} (h : Ins A A' T T' x) : T'.xs.length = T.xs.length + 1 := by
  obtain ⟨-, -, ys, zs, h1, h2, -⟩ := h
  rw [h1, h2]; simp; omega

theorem ins_nil {A : Ar} {f : Nat} {b n p : Int} (hf : 1 ≤ f ∧ f < 513 ∧ (A.pl f).live = true) (hn : (A.pl f).nd = ⟨0, 0, 1, b, n, p⟩) : Ins A A .nil (.node f .nil .nil b n p) ⟨f, b, n, p⟩ :=
  ⟨⟨hf.1, hf.2.1, hf.2.2, by rw [hn]; rfl, trivial, trivial⟩, Kept.refl A _, [], [], rfl, rfl, by simp, by simp⟩

theorem nodup_ins {ys zs : List Id3} {x : Id3} (h : (ids (ys ++ zs)).Nodup) (hx : x.i ∉ ids (ys ++ zs)) : (ids (ys ++ x :: zs)).Nodup := by
  have hp : (ids (ys ++ x :: zs)).Perm (x.i :: ids (ys ++ zs)) := by
    rw [ids_append, ids_cons, ids_append]
    exact List.perm_middle
  exact hp.symm.nodup (List.nodup_cons.2 ⟨hx, h⟩)

theorem ins_left {A A' : Ar} (hz : Zero A) {i : Nat} {l r l' : Tr} {b n p h : Int} {x : Id3} (hr : Rep A (.node i l r b n p)) (hn : (ids (Tr.node i l r b n p).xs).Nodup) (hs : Sorted (Tr.node i l r b n p).xs)
    (hx : x.i ∉ ids (Tr.node i l r b n p).xs) (hb : x.b < b) (hi : Ins A A' l l' x) :
    ∃ T', Ins A (A'.bal i ⟨l'.root, r.root, h, b, n, p⟩).1 (.node i l r b n p) T' x ∧ (A'.bal i ⟨l'.root, r.root, h, b, n, p⟩).2 = T'.root := by
  obtain ⟨m1, m2, m3, m4, m5⟩ := nodup_parts (l := l) (r := r) (x := ⟨i, b, n, p⟩) hn
  have hids := hi.ids
  obtain ⟨rl', hk, ys, zs, e1, e2, hy, hzs⟩ := hi
  obtain ⟨i1, i2, i3, -, rl, rr⟩ := hr
  simp only [Tr.xs, ids_append, ids_cons, List.mem_append, List.mem_cons, not_or] at hx
  have rr' : Rep A' r := rr.kept hk fun j hj e => by
    simp only [List.mem_cons] at e
    rcases e with rfl | e
    · exact hx.2.2 hj
    · exact m5 j e hj
  have hn' : (ids (l'.xs ++ ⟨i, b, n, p⟩ :: r.xs)).Nodup := by
    have hq : l'.xs ++ ⟨i, b, n, p⟩ :: r.xs = ys ++ x :: (zs ++ ⟨i, b, n, p⟩ :: r.xs) := by rw [e2]; simp
    rw [hq]
    refine nodup_ins ?_ ?_
    · rw [← List.append_assoc, ← e1]; exact hn
    · rw [← List.append_assoc, ← e1]
      simp only [ids_append, ids_cons, List.mem_append, List.mem_cons, not_or]
      exact hx
  obtain ⟨T', t1, t2, t3, t4⟩ := rep_bal (hz.kept hk) (h := h) (hk.pl3 ⟨i1, i2, i3⟩) rl' rr' hn'
  refine ⟨T', ⟨t1, ?_, ys, zs ++ ⟨i, b, n, p⟩ :: r.xs, by simp only [Tr.xs]; rw [e1]; simp, by rw [t3, e2]; simp, hy, ?_⟩, t2⟩
  · refine (hk.mono fun j hj => ?_).trans (t4.mono fun j hj => ?_)
    · simp only [Tr.xs, ids_append, ids_cons, List.mem_append, List.mem_cons] at hj ⊢
      rcases hj with h | h
      · exact .inl h
      · exact .inr (.inl h)
    · simp only [Tr.xs, ids_append, ids_cons, List.mem_append, List.mem_cons] at hj ⊢
      rcases hj with h | h | h
      · rcases (hids j).1 h with h | h
        · exact .inl h
        · exact .inr (.inl h)
      · exact .inr (.inr (.inl h))
      · exact .inr (.inr (.inr h))
  · intro z hz'
    simp only [List.mem_append, List.mem_cons] at hz'
    rcases hz' with h | rfl | h
    · exact hzs z h
    · exact hb
    · have := (List.pairwise_append.1 hs).2.1
      have := (List.pairwise_cons.1 this).1 z h
      exact Int.lt_trans hb this

theorem ins_right {A A' : Ar} (hz : Zero A) {i : Nat} {l r r' : Tr} {b n p h : Int} {x : Id3} (hr : Rep A (.node i l r b n p)) (hn : (ids (Tr.node i l r b n p).xs).Nodup) (hs : Sorted (Tr.node i l r b n p).xs)
    (hx : x.i ∉ ids (Tr.node i l r b n p).xs) (hb : ¬ x.b < b) (hi : Ins A A' r r' x) :
    ∃ T', Ins A (A'.bal i ⟨l.root, r'.root, h, b, n, p⟩).1 (.node i l r b n p) T' x ∧ (A'.bal i ⟨l.root, r'.root, h, b, n, p⟩).2 = T'.root := by
  obtain ⟨m1, m2, m3, m4, m5⟩ := nodup_parts (l := l) (r := r) (x := ⟨i, b, n, p⟩) hn
  have hids := hi.ids
  obtain ⟨rr', hk, ys, zs, e1, e2, hy, hzs⟩ := hi
  obtain ⟨i1, i2, i3, -, rl, rr⟩ := hr
  simp only [Tr.xs, ids_append, ids_cons, List.mem_append, List.mem_cons, not_or] at hx
  have rl' : Rep A' l := rl.kept hk fun j hj e => by
    simp only [List.mem_cons] at e
    rcases e with rfl | e
    · exact hx.1 hj
    · exact m5 j hj e
  have hn' : (ids (l.xs ++ ⟨i, b, n, p⟩ :: r'.xs)).Nodup := by
    have hq : l.xs ++ ⟨i, b, n, p⟩ :: r'.xs = (l.xs ++ ⟨i, b, n, p⟩ :: ys) ++ x :: zs := by rw [e2]; simp
    rw [hq]
    have hq2 : (l.xs ++ ⟨i, b, n, p⟩ :: ys) ++ zs = l.xs ++ ⟨i, b, n, p⟩ :: r.xs := by rw [e1]; simp
    refine nodup_ins ?_ ?_
    · rw [hq2]; exact hn
    · rw [hq2]
      simp only [ids_append, ids_cons, List.mem_append, List.mem_cons, not_or]
      exact hx
  obtain ⟨T', t1, t2, t3, t4⟩ := rep_bal (hz.kept hk) (h := h) (hk.pl3 ⟨i1, i2, i3⟩) rl' rr' hn'
  refine ⟨T', ⟨t1, ?_, l.xs ++ ⟨i, b, n, p⟩ :: ys, zs, by simp only [Tr.xs]; rw [e1]; simp, by rw [t3, e2]; simp, ?_, hzs⟩, t2⟩
  · refine (hk.mono fun j hj => ?_).trans (t4.mono fun j hj => ?_)
    · simp only [Tr.xs, ids_append, ids_cons, List.mem_append, List.mem_cons] at hj ⊢
      rcases hj with h | h
      · exact .inl h
      · exact .inr (.inr (.inr h))
    · simp only [Tr.xs, ids_append, ids_cons, List.mem_append, List.mem_cons] at hj ⊢
      rcases hj with h | h | h
      · exact .inr (.inl h)
      · exact .inr (.inr (.inl h))
      · rcases (hids j).1 h with h | h
        · exact .inl h
        · exact .inr (.inr (.inr h))
  · intro y hy'
    simp only [List.mem_append, List.mem_cons] at hy'
    have hle : b ≤ x.b := Int.not_lt.1 hb
    rcases hy' with h | rfl | h
    · have := (List.pairwise_append.1 hs).2.2 y h _ (List.mem_cons_self ..)
      exact Int.le_trans (Int.le_of_lt this) hle
    · exact hle
    · exact hy y h

theorem Sorted.left {i : Nat} {l r : Tr} {b n p : Int} (h : Sorted (Tr.node i l r b n p).xs) : Sorted l.xs := (List.pairwise_append.1 h).1
theorem Sorted.right {i : Nat} {l r : Tr} {b n p : Int} (h : Sorted (Tr.node i l r b n p).xs) : Sorted r.xs := (List.pairwise_cons.1 (List.pairwise_append.1 h).2.1).2
end Lo
end Go.Proofs.YtjmhkcfdmcjilaaGreat
