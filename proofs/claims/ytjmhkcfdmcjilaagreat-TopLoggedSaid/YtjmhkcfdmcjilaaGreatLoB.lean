/-
  Plain: an arena of nodes, the trees that lie in it, and what turning, inserting and removing make of them.
-/
import Derived.Test.YtjmhkcfdmcjilaaGreatProg
set_option linter.unusedVariables false
set_option linter.unusedSimpArgs false
namespace Go.Proofs.YtjmhkcfdmcjilaaGreat
namespace Lo

/-- A node. -/
structure Nd where
  l : Nat
  r : Nat
  h : Int
  b : Int
  n : Int
  p : Int
def Nd.zero : Nd := ⟨0, 0, 0, 0, 0, 0⟩
/-- A place. -/
structure Pl where
  live : Bool
  next : Nat
  nd : Nd
/-- An arena of 513 places. -/
structure Ar where
  pl : Nat → Pl
  free : Nat
  live : Int
def Ar.set (A : Ar) (i : Nat) (x : Pl) : Ar := { A with pl := fun j => if j = i then x else A.pl j }
def Ar.has (A : Ar) (i : Nat) : Bool := decide (i < 513) && (A.pl i).live
def Ar.get (A : Ar) (i : Nat) : Nd := if A.has i then (A.pl i).nd else Nd.zero
def Ar.put (A : Ar) (i : Nat) (n : Nd) : Ar := if A.has i then A.set i { A.pl i with nd := n } else A

/-- All but the nodes is as it was, and so is every node that is not among 'ids'. -/
structure Kept (A A' : Ar) (ids : List Nat) : Prop where
  free : A'.free = A.free
  count : A'.live = A.live
  live : ∀ j, (A'.pl j).live = (A.pl j).live
  next : ∀ j, (A'.pl j).next = (A.pl j).next
  nd : ∀ j, j ∉ ids → (A'.pl j).nd = (A.pl j).nd

theorem Kept.refl (A : Ar) (ids : List Nat) : Kept A A ids := ⟨rfl, rfl, fun _ => rfl, fun _ => rfl, fun _ _ => rfl⟩
theorem Kept.trans {A B C : Ar} {ids : List Nat} (h : Kept A B ids) (k : Kept B C ids) : Kept A C ids :=
  ⟨k.free.trans h.free, k.count.trans h.count, fun j => (k.live j).trans (h.live j), fun j => (k.next j).trans (h.next j), fun j hj => (k.nd j hj).trans (h.nd j hj)⟩
theorem Kept.mono {A B : Ar} {ids ids' : List Nat} (h : Kept A B ids) (hs : ∀ j ∈ ids, j ∈ ids') : Kept A B ids' :=
  ⟨h.free, h.count, h.live, h.next, fun j hj => h.nd j fun k => hj (hs j k)⟩
theorem Kept.has {A B : Ar} {ids : List Nat} (h : Kept A B ids) (j : Nat) : B.has j = A.has j := by simp [Ar.has, h.live]
theorem Kept.get {A B : Ar} {ids : List Nat} (h : Kept A B ids) {j : Nat} (hj : j ∉ ids) : B.get j = A.get j := by simp [Ar.get, h.has, h.nd j hj]

theorem put_kept (A : Ar) (i : Nat) (n : Nd) : Kept A (A.put i n) [i] := by
  unfold Ar.put
  split
  · refine ⟨rfl, rfl, fun j => ?_, fun j => ?_, fun j hj => ?_⟩ <;> simp only [Ar.set] <;> split <;> simp_all
  · exact Kept.refl A _
theorem put_get {A : Ar} {i : Nat} {n : Nd} (h : A.has i = true) : (A.put i n).get i = n := by
  have h2 := (put_kept A i n).has i
  unfold Ar.get
  rw [h2, if_pos h]
  unfold Ar.put
  rw [if_pos h]
  simp [Ar.set]

/-- A node with its height worked out. -/
def Ar.tall (A : Ar) (n : Nd) : Nd := { n with h := 1 + max (A.get n.l).h (A.get n.r).h }
def Ar.tput (A : Ar) (i : Nat) (n : Nd) : Ar := A.put i (A.tall n)

/-- All heights are at most k. -/
def HB (A : Ar) (k : Int) : Prop := ∀ j, 0 ≤ (A.get j).h ∧ (A.get j).h ≤ k
theorem HB.mono {A : Ar} {k k' : Int} (h : HB A k) (hk : k ≤ k') : HB A k' := fun j => ⟨(h j).1, Int.le_trans (h j).2 hk⟩
theorem tput_hb {A : Ar} {i : Nat} {n : Nd} {k : Int} (h : HB A k) : HB (A.tput i n) (k + 1) := by
  intro j
  by_cases hj : j = i
  · subst hj
    by_cases hh : A.has j = true
    · rw [Ar.tput, put_get hh]
      have h1 := h n.l
      have h2 := h n.r
      simp only [Ar.tall]
      omega
    · have h1 : (A.tput j n) = A := by simp [Ar.tput, Ar.put, hh]
      rw [h1]
      have := h j
      omega
  · rw [Ar.tput, (put_kept A i _).get (by simpa using hj)]
    have := h j
    omega

/-- What 'right' and 'left' make. -/
def Ar.tright (A : Ar) (i : Nat) : Ar :=
  let n := A.get i
  let m := A.get n.l
  (A.tput i { n with l := m.r }).tput n.l { m with r := i }
def Ar.tleft (A : Ar) (i : Nat) : Ar :=
  let n := A.get i
  let m := A.get n.r
  (A.tput i { n with r := m.l }).tput n.r { m with l := i }

theorem tright_hb {A : Ar} {i : Nat} {k : Int} (h : HB A k) : HB (A.tright i) (k + 1 + 1) := tput_hb (tput_hb h)
theorem tleft_hb {A : Ar} {i : Nat} {k : Int} (h : HB A k) : HB (A.tleft i) (k + 1 + 1) := tput_hb (tput_hb h)

/-- What 'balance' makes, and the branch's new root. -/
def Ar.bal (A0 : Ar) (i : Nat) (n : Nd) : Ar × Nat :=
  let A := A0.tput i n
  let d := (A.get n.l).h - (A.get n.r).h
  if d > 1 then
    let l := A.get n.l
    if (A.get l.l).h < (A.get l.r).h then
      let A2 := (A.tleft n.l).tput i { n with l := l.r }
      (A2.tright i, (A2.get i).l)
    else (A.tright i, (A.get i).l)
  else if d < -1 then
    let r := A.get n.r
    if (A.get r.r).h < (A.get r.l).h then
      let A2 := (A.tright n.r).tput i { n with r := r.l }
      (A2.tleft i, (A2.get i).r)
    else (A.tleft i, (A.get i).r)
  else (A, i)

/-- A tree. -/
inductive Tr where
  | nil
  | node (i : Nat) (l r : Tr) (b n p : Int)
def Tr.root : Tr → Nat
  | .nil => 0
  | .node i _ _ _ _ _ => i
def Tr.ht : Tr → Int
  | .nil => 0
  | .node _ l r _ _ _ => 1 + max l.ht r.ht
theorem Tr.root_node (i : Nat) (l r : Tr) (b n p : Int) : (Tr.node i l r b n p).root = i := rfl
theorem Tr.ht_node (i : Nat) (l r : Tr) (b n p : Int) : (Tr.node i l r b n p).ht = 1 + max l.ht r.ht := rfl
/-- A run with its node's number. -/
structure Id3 where
  i : Nat
  b : Int
  n : Int
  p : Int
def Tr.xs : Tr → List Id3
  | .nil => []
  | .node i l r b n p => l.xs ++ ⟨i, b, n, p⟩ :: r.xs
def ids (xs : List Id3) : List Nat := xs.map (·.i)
def Rep (A : Ar) : Tr → Prop
  | .nil => True
  | .node i l r b n p => 1 ≤ i ∧ i < 513 ∧ (A.pl i).live = true ∧ (A.pl i).nd = ⟨l.root, r.root, 1 + max l.ht r.ht, b, n, p⟩ ∧ Rep A l ∧ Rep A r

theorem ids_append (a b : List Id3) : ids (a ++ b) = ids a ++ ids b := List.map_append
theorem ids_cons (x : Id3) (b : List Id3) : ids (x :: b) = x.i :: ids b := rfl

theorem Rep.kept {A A' : Ar} {js : List Nat} (hk : Kept A A' js) : ∀ {T : Tr}, Rep A T → (∀ j ∈ ids T.xs, j ∉ js) → Rep A' T
  | .nil, _, _ => trivial
  | .node i l r b n p, h, hj => by
    obtain ⟨h1, h2, h3, h4, h5, h6⟩ := h
    simp only [Tr.xs, ids_append, ids_cons, List.mem_append, List.mem_cons] at hj
    refine ⟨h1, h2, by rw [hk.live]; exact h3, by rw [hk.nd i (hj i (.inr (.inl rfl)))]; exact h4, h5.kept hk fun j h => hj j (.inl h), h6.kept hk fun j h => hj j (.inr (.inr h))⟩

theorem Tr.ht_nonneg : ∀ T : Tr, 0 ≤ T.ht
  | .nil => Int.le_refl _
  | .node _ l r _ _ _ => by
    have := l.ht_nonneg
    have := r.ht_nonneg
    simp only [Tr.ht]; omega
theorem Tr.ht_le : ∀ T : Tr, T.ht ≤ T.xs.length
  | .nil => Int.le_refl _
  | .node _ l r _ _ _ => by
    have := l.ht_le
    have := r.ht_le
    simp only [Tr.ht, Tr.xs, List.length_append, List.length_cons]; omega

theorem Rep.has {A : Ar} {i : Nat} {l r : Tr} {b n p : Int} (h : Rep A (.node i l r b n p)) : A.has i = true := by
  obtain ⟨h1, h2, h3, -⟩ := h
  simp [Ar.has, h2, h3]
theorem Rep.get {A : Ar} {i : Nat} {l r : Tr} {b n p : Int} (h : Rep A (.node i l r b n p)) : A.get i = ⟨l.root, r.root, 1 + max l.ht r.ht, b, n, p⟩ := by
  rw [Ar.get, if_pos h.has]
  exact h.2.2.2.1

/-- The place of number 0 is not live. -/
def Zero (A : Ar) : Prop := (A.pl 0).live = false
theorem Zero.kept {A A' : Ar} {js : List Nat} (h : Zero A) (hk : Kept A A' js) : Zero A' := (hk.live 0).trans h
theorem Zero.get {A : Ar} (h : Zero A) : A.get 0 = Nd.zero := by
  rw [Ar.get, Ar.has, h]; rfl
theorem Rep.height {A : Ar} (hz : Zero A) : ∀ {T : Tr}, Rep A T → (A.get T.root).h = T.ht
  | .nil, _ => by rw [Tr.root, hz.get]; rfl
  | .node i l r b n p, h => by rw [Tr.root, h.get]; rfl
theorem Rep.pos {A : Ar} : ∀ {T : Tr}, Rep A T → 0 < T.ht → ∃ i l r b n p, T = .node i l r b n p
  | .nil, _, h => absurd h (by simp [Tr.ht])
  | .node i l r b n p, _, _ => ⟨i, l, r, b, n, p, rfl⟩
theorem Rep.root0 {A : Ar} : ∀ {T : Tr}, Rep A T → (T.root = 0 ↔ T = .nil)
  | .nil, _ => by simp [Tr.root]
  | .node i l r b n p, h => by
    have := h.1
    simp [Tr.root]; omega

/-- A node is put, and its height is worked out. -/
theorem rep_tput {A : Ar} (hz : Zero A) {i : Nat} {l r : Tr} {b n p h : Int} (hi : 1 ≤ i ∧ i < 513 ∧ (A.pl i).live = true) (hl : Rep A l) (hr : Rep A r) (il : i ∉ ids l.xs) (ir : i ∉ ids r.xs) :
    Rep (A.tput i ⟨l.root, r.root, h, b, n, p⟩) (.node i l r b n p) := by
  have hk := put_kept A i (A.tall ⟨l.root, r.root, h, b, n, p⟩)
  refine ⟨hi.1, hi.2.1, by rw [Ar.tput, hk.live]; exact hi.2.2, ?_, hl.kept hk fun j hj e => ?_, hr.kept hk fun j hj e => ?_⟩
  · rw [Ar.tput, Ar.put, if_pos (by simp [Ar.has, hi])]
    simp [Ar.set, Ar.tall, hl.height hz, hr.height hz]
  · simp only [List.mem_singleton] at e; subst e; exact il hj
  · simp only [List.mem_singleton] at e; subst e; exact ir hj

theorem nodup_parts {l r : Tr} {x : Id3} (h : (ids (l.xs ++ x :: r.xs)).Nodup) : (ids l.xs).Nodup ∧ (ids r.xs).Nodup ∧ x.i ∉ ids l.xs ∧ x.i ∉ ids r.xs ∧ ∀ j ∈ ids l.xs, j ∉ ids r.xs := by
  rw [ids_append, ids_cons, List.nodup_append] at h
  obtain ⟨h1, h2, h3⟩ := h
  rw [List.nodup_cons] at h2
  exact ⟨h1, h2.2, fun k => h3 _ k _ (List.mem_cons_self ..) rfl, h2.1, fun j hj k => h3 _ hj _ (List.mem_cons_of_mem _ k) rfl⟩

/-- A turn to the right. -/
theorem rep_tright {A : Ar} (hz : Zero A) {i u : Nat} {a b c : Tr} {b1 n1 p1 b2 n2 p2 : Int} (h : Rep A (.node i (.node u a b b1 n1 p1) c b2 n2 p2)) (hn : (ids (Tr.node i (.node u a b b1 n1 p1) c b2 n2 p2).xs).Nodup) :
    Rep (A.tright i) (.node u a (.node i b c b2 n2 p2) b1 n1 p1) ∧ Kept A (A.tright i) [i, u] ∧ (A.get i).l = u := by
  have g1 := h.get
  obtain ⟨i1, i2, i3, i4, hl, hc⟩ := h
  have g2 := hl.get
  obtain ⟨u1, u2, u3, u4, ha, hb⟩ := hl
  have n1' := nodup_parts (l := .node u a b b1 n1 p1) (r := c) (x := ⟨i, b2, n2, p2⟩) hn
  obtain ⟨m1, m2, m3, m4, m5⟩ := n1'
  obtain ⟨o1, o2, o3, o4, o5⟩ := nodup_parts (l := a) (r := b) (x := ⟨u, b1, n1, p1⟩) m1
  simp only [Tr.xs, ids_append, ids_cons, List.mem_append, List.mem_cons, not_or] at m3 m5
  have hiu : i ≠ u := m3.2.1
  have e1 : A.tright i = (A.tput i ⟨b.root, c.root, 1 + max (1 + max a.ht b.ht) c.ht, b2, n2, p2⟩).tput u ⟨a.root, i, 1 + max a.ht b.ht, b1, n1, p1⟩ := by
    simp only [Ar.tright, g1, Tr.root_node, Tr.ht_node, g2]
  have k1 := put_kept A i (A.tall ⟨b.root, c.root, 1 + max (1 + max a.ht b.ht) c.ht, b2, n2, p2⟩)
  have r1 := rep_tput hz (b := b2) (n := n2) (p := p2) (h := 1 + max (1 + max a.ht b.ht) c.ht) ⟨i1, i2, i3⟩ hb hc m3.2.2 m4
  have z1 : Zero (A.tput i ⟨b.root, c.root, 1 + max (1 + max a.ht b.ht) c.ht, b2, n2, p2⟩) := hz.kept k1
  have ra : Rep (A.tput i ⟨b.root, c.root, 1 + max (1 + max a.ht b.ht) c.ht, b2, n2, p2⟩) a := ha.kept k1 fun j hj e => by
    simp only [List.mem_singleton] at e; subst e; exact m3.1 hj
  have r2 := rep_tput z1 (i := u) (b := b1) (n := n1) (p := p1) (h := 1 + max a.ht b.ht) ⟨u1, u2, by rw [Ar.tput, k1.live]; exact u3⟩ ra r1 o3 (by
    simp only [Tr.xs, ids_append, ids_cons, List.mem_append, List.mem_cons, not_or]
    exact ⟨o4, fun e => hiu e.symm, fun k => m5 u (.inr (.inl rfl)) k⟩)
  refine ⟨by rw [e1]; exact r2, ?_, by rw [g1]; rfl⟩
  rw [e1]
  exact (k1.mono (by simp)).trans ((put_kept _ u _).mono (by simp))

/-- A turn to the left. -/
theorem rep_tleft {A : Ar} (hz : Zero A) {i u : Nat} {a b c : Tr} {b1 n1 p1 b2 n2 p2 : Int} (h : Rep A (.node i a (.node u b c b1 n1 p1) b2 n2 p2)) (hn : (ids (Tr.node i a (.node u b c b1 n1 p1) b2 n2 p2).xs).Nodup) :
    Rep (A.tleft i) (.node u (.node i a b b2 n2 p2) c b1 n1 p1) ∧ Kept A (A.tleft i) [i, u] ∧ (A.get i).r = u := by
  have g1 := h.get
  obtain ⟨i1, i2, i3, i4, ha, hl⟩ := h
  have g2 := hl.get
  obtain ⟨u1, u2, u3, u4, hb, hc⟩ := hl
  obtain ⟨m1, m2, m3, m4, m5⟩ := nodup_parts (l := a) (r := .node u b c b1 n1 p1) (x := ⟨i, b2, n2, p2⟩) hn
  obtain ⟨o1, o2, o3, o4, o5⟩ := nodup_parts (l := b) (r := c) (x := ⟨u, b1, n1, p1⟩) m2
  simp only [Tr.xs, ids_append, ids_cons, List.mem_append, List.mem_cons, not_or] at m4 m5
  have hiu : i ≠ u := m4.2.1
  have e1 : A.tleft i = (A.tput i ⟨a.root, b.root, 1 + max a.ht (1 + max b.ht c.ht), b2, n2, p2⟩).tput u ⟨i, c.root, 1 + max b.ht c.ht, b1, n1, p1⟩ := by
    simp only [Ar.tleft, g1, Tr.root_node, Tr.ht_node, g2]
  have k1 := put_kept A i (A.tall ⟨a.root, b.root, 1 + max a.ht (1 + max b.ht c.ht), b2, n2, p2⟩)
  have r1 := rep_tput hz (b := b2) (n := n2) (p := p2) (h := 1 + max a.ht (1 + max b.ht c.ht)) ⟨i1, i2, i3⟩ ha hb m3 m4.1
  have z1 : Zero (A.tput i ⟨a.root, b.root, 1 + max a.ht (1 + max b.ht c.ht), b2, n2, p2⟩) := hz.kept k1
  have rc : Rep (A.tput i ⟨a.root, b.root, 1 + max a.ht (1 + max b.ht c.ht), b2, n2, p2⟩) c := hc.kept k1 fun j hj e => by
    simp only [List.mem_singleton] at e; subst e; exact m4.2.2 hj
  have r2 := rep_tput z1 (i := u) (b := b1) (n := n1) (p := p1) (h := 1 + max b.ht c.ht) ⟨u1, u2, by rw [Ar.tput, k1.live]; exact u3⟩ r1 rc (by
    simp only [Tr.xs, ids_append, ids_cons, List.mem_append, List.mem_cons, not_or]
    exact ⟨fun k => (m5 u k).2.1 rfl, fun e => hiu e.symm, o3⟩) o4
  refine ⟨by rw [e1]; exact r2, ?_, by rw [g1]; rfl⟩
  rw [e1]
  exact (k1.mono (by simp)).trans ((put_kept _ u _).mono (by simp))

theorem Kept.pl3 {A B : Ar} {js : List Nat} (h : Kept A B js) {i : Nat} (hi : 1 ≤ i ∧ i < 513 ∧ (A.pl i).live = true) : 1 ≤ i ∧ i < 513 ∧ (B.pl i).live = true := ⟨hi.1, hi.2.1, by rw [h.live]; exact hi.2.2⟩

/-- The node set, and what has become too high turned: the same runs in the same order. -/
theorem rep_bal {A0 : Ar} (hz : Zero A0) {i : Nat} {l r : Tr} {b n p h : Int} (hi : 1 ≤ i ∧ i < 513 ∧ (A0.pl i).live = true) (hl : Rep A0 l) (hr : Rep A0 r) (hn : (ids (l.xs ++ ⟨i, b, n, p⟩ :: r.xs)).Nodup) :
    ∃ T, Rep (A0.bal i ⟨l.root, r.root, h, b, n, p⟩).1 T ∧ (A0.bal i ⟨l.root, r.root, h, b, n, p⟩).2 = T.root ∧ T.xs = l.xs ++ ⟨i, b, n, p⟩ :: r.xs ∧
      Kept A0 (A0.bal i ⟨l.root, r.root, h, b, n, p⟩).1 (ids (l.xs ++ ⟨i, b, n, p⟩ :: r.xs)) := by
  obtain ⟨m1, m2, m3, m4, m5⟩ := nodup_parts hn
  have k0 := put_kept A0 i (A0.tall ⟨l.root, r.root, h, b, n, p⟩)
  have r0 := rep_tput hz (b := b) (n := n) (p := p) (h := h) hi hl hr m3 m4
  obtain ⟨A, hA⟩ : ∃ A, A = A0.tput i ⟨l.root, r.root, h, b, n, p⟩ := ⟨_, rfl⟩
  have z : Zero A := by rw [hA]; exact hz.kept k0
  have k0' : Kept A0 A (ids (l.xs ++ ⟨i, b, n, p⟩ :: r.xs)) := by rw [hA]; exact k0.mono (by simp [ids_append, ids_cons])
  rw [← hA] at r0
  have gi := r0.get
  have hi' : 1 ≤ i ∧ i < 513 ∧ (A.pl i).live = true := ⟨r0.1, r0.2.1, r0.2.2.1⟩
  have rl : Rep A l := r0.2.2.2.2.1
  have rr : Rep A r := r0.2.2.2.2.2
  have e : A0.bal i ⟨l.root, r.root, h, b, n, p⟩ = if l.ht - r.ht > 1 then
      (if (A.get (A.get l.root).l).h < (A.get (A.get l.root).r).h then
        ((((A.tleft l.root).tput i ⟨(A.get l.root).r, r.root, h, b, n, p⟩).tright i), (((A.tleft l.root).tput i ⟨(A.get l.root).r, r.root, h, b, n, p⟩).get i).l)
      else (A.tright i, (A.get i).l))
    else if l.ht - r.ht < -1 then
      (if (A.get (A.get r.root).r).h < (A.get (A.get r.root).l).h then
        ((((A.tright r.root).tput i ⟨l.root, (A.get r.root).l, h, b, n, p⟩).tleft i), (((A.tright r.root).tput i ⟨l.root, (A.get r.root).l, h, b, n, p⟩).get i).r)
      else (A.tleft i, (A.get i).r))
    else (A, i) := by
    unfold Ar.bal
    simp only [← hA, rl.height z, rr.height z]
  rw [e]
  clear e
  split
  · rename_i hd
    have h1 := r.ht_nonneg
    obtain ⟨u, a, c, b1, n1, p1, rfl⟩ := Rep.pos rl (by omega)
    have gu := rl.get
    simp only [Tr.root_node, gu]
    obtain ⟨hu1, hu2, hu3, hu4, ra, rc⟩ := rl
    rw [ra.height z, rc.height z]
    obtain ⟨o1, o2, o3, o4, o5⟩ := nodup_parts (l := a) (r := c) (x := ⟨u, b1, n1, p1⟩) m1
    split
    · rename_i hh
      have h2 := a.ht_nonneg
      obtain ⟨v, c1, c2, b2, n2, p2, rfl⟩ := Rep.pos rc (by omega)
      obtain ⟨q1, q2, q3⟩ := rep_tleft z (i := u) (u := v) (a := a) (b := c1) (c := c2) (b1 := b2) (n1 := n2) (p1 := p2) (b2 := b1) (n2 := n1) (p2 := p1) ⟨hu1, hu2, hu3, hu4, ra, rc⟩ m1
      have z2 := z.kept q2
      have rr2 : Rep (A.tleft u) r := rr.kept q2 fun j hj e => by
        simp only [List.mem_cons, List.not_mem_nil, or_false] at e
        refine m5 j ?_ hj
        simp only [Tr.xs, ids_append, ids_cons, List.mem_append, List.mem_cons]
        rcases e with rfl | rfl <;> simp
      have ni : i ∉ ids (Tr.node v (.node u a c1 b1 n1 p1) c2 b2 n2 p2).xs := by
        simp only [Tr.xs, ids_append, ids_cons, List.mem_append, List.mem_cons, not_or] at m3 ⊢
        exact ⟨⟨m3.1, m3.2.1, m3.2.2.1⟩, m3.2.2.2.1, m3.2.2.2.2⟩
      have r3 := rep_tput z2 (b := b) (n := n) (p := p) (h := h) (q2.pl3 hi') q1 rr2 ni m4
      rw [Tr.root_node] at r3
      have k3 := put_kept (A.tleft u) i ((A.tleft u).tall ⟨v, r.root, h, b, n, p⟩)
      have hn3 : (ids (Tr.node i (.node v (.node u a c1 b1 n1 p1) c2 b2 n2 p2) r b n p).xs).Nodup := by
        simp only [Tr.xs, ids_append, ids_cons, List.append_assoc, List.cons_append] at hn ⊢
        exact hn
      obtain ⟨s1, s2, s3⟩ := rep_tright (z2.kept k3) r3 hn3
      refine ⟨_, s1, s3, by simp only [Tr.xs, List.append_assoc, List.cons_append], ?_⟩
      refine k0'.trans ((q2.mono ?_).trans ((k3.mono ?_).trans (s2.mono ?_)))
      all_goals
        intro j hj
        simp only [List.mem_cons, List.not_mem_nil, or_false] at hj
        simp only [Tr.xs, ids_append, ids_cons, List.mem_append, List.mem_cons]
      · rcases hj with rfl | rfl <;> simp
      · rcases hj with rfl; simp
      · rcases hj with rfl | rfl <;> simp
    · obtain ⟨s1, s2, s3⟩ := rep_tright z (i := i) (u := u) (a := a) (b := c) (c := r) r0 hn
      refine ⟨_, s1, s3, by simp only [Tr.xs, List.append_assoc, List.cons_append], k0'.trans (s2.mono ?_)⟩
      intro j hj
      simp only [List.mem_cons, List.not_mem_nil, or_false] at hj
      simp only [Tr.xs, ids_append, ids_cons, List.mem_append, List.mem_cons]
      rcases hj with rfl | rfl <;> simp
  · split
    · rename_i _ hd
      have h1 := l.ht_nonneg
      obtain ⟨u, a, c, b1, n1, p1, rfl⟩ := Rep.pos rr (by omega)
      have gu := rr.get
      simp only [Tr.root_node, gu]
      obtain ⟨hu1, hu2, hu3, hu4, ra, rc⟩ := rr
      rw [ra.height z, rc.height z]
      obtain ⟨o1, o2, o3, o4, o5⟩ := nodup_parts (l := a) (r := c) (x := ⟨u, b1, n1, p1⟩) m2
      split
      · rename_i hh
        have h2 := c.ht_nonneg
        obtain ⟨v, c1, c2, b2, n2, p2, rfl⟩ := Rep.pos ra (by omega)
        obtain ⟨q1, q2, q3⟩ := rep_tright z (i := u) (u := v) (a := c1) (b := c2) (c := c) (b1 := b2) (n1 := n2) (p1 := p2) (b2 := b1) (n2 := n1) (p2 := p1) ⟨hu1, hu2, hu3, hu4, ra, rc⟩ m2
        have z2 := z.kept q2
        have rl2 : Rep (A.tright u) l := rl.kept q2 fun j hj e => by
          simp only [List.mem_cons, List.not_mem_nil, or_false] at e
          refine m5 j hj ?_
          simp only [Tr.xs, ids_append, ids_cons, List.mem_append, List.mem_cons]
          rcases e with rfl | rfl <;> simp
        have ni : i ∉ ids (Tr.node v c1 (.node u c2 c b1 n1 p1) b2 n2 p2).xs := by
          simp only [Tr.xs, ids_append, ids_cons, List.mem_append, List.mem_cons, not_or] at m4 ⊢
          exact ⟨m4.1.1, m4.1.2.1, m4.1.2.2, m4.2.1, m4.2.2⟩
        have r3 := rep_tput z2 (b := b) (n := n) (p := p) (h := h) (q2.pl3 hi') rl2 q1 m3 ni
        rw [Tr.root_node] at r3
        have k3 := put_kept (A.tright u) i ((A.tright u).tall ⟨l.root, v, h, b, n, p⟩)
        have hn3 : (ids (Tr.node i l (.node v c1 (.node u c2 c b1 n1 p1) b2 n2 p2) b n p).xs).Nodup := by
          simp only [Tr.xs, ids_append, ids_cons, List.append_assoc, List.cons_append] at hn ⊢
          exact hn
        obtain ⟨s1, s2, s3⟩ := rep_tleft (z2.kept k3) r3 hn3
        refine ⟨_, s1, s3, by simp only [Tr.xs, List.append_assoc, List.cons_append], ?_⟩
        refine k0'.trans ((q2.mono ?_).trans ((k3.mono ?_).trans (s2.mono ?_)))
        all_goals
          intro j hj
          simp only [List.mem_cons, List.not_mem_nil, or_false] at hj
          simp only [Tr.xs, ids_append, ids_cons, List.mem_append, List.mem_cons]
        · rcases hj with rfl | rfl <;> simp
        · rcases hj with rfl; simp
        · rcases hj with rfl | rfl <;> simp
      · obtain ⟨s1, s2, s3⟩ := rep_tleft z (i := i) (u := u) (a := l) (b := a) (c := c) r0 hn
        refine ⟨_, s1, s3, by simp only [Tr.xs, List.append_assoc, List.cons_append], k0'.trans (s2.mono ?_)⟩
        intro j hj
        simp only [List.mem_cons, List.not_mem_nil, or_false] at hj
        simp only [Tr.xs, ids_append, ids_cons, List.mem_append, List.mem_cons]
        rcases hj with rfl | rfl <;> simp
    · exact ⟨_, r0, rfl, rfl, k0'⟩
end Lo
end Go.Proofs.YtjmhkcfdmcjilaaGreat
