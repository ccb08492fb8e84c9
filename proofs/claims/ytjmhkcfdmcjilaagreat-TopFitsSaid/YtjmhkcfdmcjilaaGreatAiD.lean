/-
  The reckoner's memory against a world: 'Ga'. Below the base nothing turns.
-/
import Derived.Test.YtjmhkcfdmcjilaaGreatAiC
namespace Go.Proofs.YtjmhkcfdmcjilaaGreat
namespace Ai
open Go.RowKit

def cvE (ν : Nu) (e : W × W × Nat) : Option MapEntry :=
  match cvW ν e.1, cvW ν e.2.1 with
  | some k, some v => some ⟨k, v, e.2.2⟩
  | _, _ => none

def cvEs (ν : Nu) : List (W × W × Nat) → Option (List MapEntry)
  | [] => some []
  | e :: l => match cvE ν e, cvEs ν l with
    | some x, some xs => some (x :: xs)
    | _, _ => none

theorem cvE_mono {ν ν' : Nu} (h : ν.le ν') {e : W × W × Nat} {x : MapEntry} (hx : cvE ν e = some x) : cvE ν' e = some x := by
  simp only [cvE] at hx ⊢
  cases h1 : cvW ν e.1 with
  | none => simp [h1] at hx
  | some k =>
    cases h2 : cvW ν e.2.1 with
    | none => simp [h1, h2] at hx
    | some v => rw [cvW_mono h h1, cvW_mono h h2]; simpa [h1, h2] using hx

theorem cvEs_cons {ν : Nu} {e : W × W × Nat} {l : List (W × W × Nat)} {xs : List MapEntry} (h : cvEs ν (e :: l) = some xs) :
    ∃ x ys, cvE ν e = some x ∧ cvEs ν l = some ys ∧ xs = x :: ys := by
  simp only [cvEs] at h
  cases h1 : cvE ν e with
  | none => simp [h1] at h
  | some x =>
    cases h2 : cvEs ν l with
    | none => simp [h1, h2] at h
    | some ys => exact ⟨x, ys, rfl, rfl, by simpa [h1, h2] using h.symm⟩

theorem cvEs_mk {ν : Nu} {e : W × W × Nat} {l : List (W × W × Nat)} {x : MapEntry} {ys : List MapEntry} (h1 : cvE ν e = some x) (h2 : cvEs ν l = some ys) :
    cvEs ν (e :: l) = some (x :: ys) := by simp [cvEs, h1, h2]

theorem cvEs_mono {ν ν' : Nu} (h : ν.le ν') : ∀ {l : List (W × W × Nat)} {xs : List MapEntry}, cvEs ν l = some xs → cvEs ν' l = some xs
  | [], _, e => e
  | e :: l, xs, hx => by
    obtain ⟨x, ys, h1, h2, rfl⟩ := cvEs_cons hx
    exact cvEs_mk (cvE_mono h h1) (cvEs_mono h h2)

theorem cvEs_append {ν : Nu} : ∀ {l m : List (W × W × Nat)} {xs ys : List MapEntry}, cvEs ν l = some xs → cvEs ν m = some ys → cvEs ν (l ++ m) = some (xs ++ ys)
  | [], m, xs, ys, h, k => by simp only [cvEs, Option.some.injEq] at h; subst h; simpa using k
  | e :: l, m, xs, ys, h, k => by
    obtain ⟨x, zs, h1, h2, rfl⟩ := cvEs_cons h
    exact cvEs_mk h1 (cvEs_append h2 k)

/-- The known cells of a row. -/
def RowR (ν : Nu) (k : Nat) (t : Tr S) (cur : Array Value) : Prop :=
  k ≤ top ∧ ∀ i, i < k → t.get i = .any ∨ ∃ v, cur[i]? = some v ∧ cvS ν (t.get i) = some v

theorem RowR.mono {ν ν' : Nu} (h : ν.le ν') {k : Nat} {t : Tr S} {cur : Array Value} (r : RowR ν k t cur) : RowR ν' k t cur := ⟨r.1, fun i hi => by
  rcases r.2 i hi with h1 | ⟨v, h1, h2⟩
  · exact .inl h1
  · exact .inr ⟨v, h1, cvS_mono h h2⟩⟩

def ObR (ν : Nu) : B → Nat → Option Obj → Prop
  | .row k t e z o, sl, ob => ∃ cur, ob = some (.cells cur e (0, 0)) ∧ RowR ν k t cur ∧ cur.size = k + sl * z ∧ (o = false → sl = 0)
  | .map es c, _, ob => ∃ l, ob = some (.map l.toArray c) ∧ cvEs ν es = some l
  | _, _, _ => False

def live : B → Bool
  | .row .. => true
  | .map .. => true
  | _ => false

theorem ObR.mono {ν ν' : Nu} (h : ν.le ν') {x : B} {sl : Nat} {ob : Option Obj} (r : ObR ν x sl ob) : ObR ν' x sl ob := by
  cases x with
  | row k t e z o => obtain ⟨cur, h1, h2, h3, h4⟩ := r; exact ⟨cur, h1, h2.mono h, h3, h4⟩
  | map es c => obtain ⟨l, h1, h2⟩ := r; exact ⟨l, h1, cvEs_mono h h2⟩
  | none => exact r
  | dead => exact r

structure Ga (B0 : Nat) (W0 : World) (ν : Nu) (h : H) (w : World) : Prop where
  below : Below B0 W0 w
  base : B0 ≤ w.heap.size
  no : ∀ n, h.get n = .none → ν n = none
  lim : ∀ n, h.get n ≠ .none → n < top
  obj : ∀ n, live (h.get n) = true → ∃ y, ν n = some y ∧ B0 ≤ y.1 ∧ ObR ν (h.get n) y.2 (w.heap[y.1]?)
  inj : ∀ n m y y', live (h.get n) = true → live (h.get m) = true → ν n = some y → ν m = some y' → y.1 = y'.1 → n = m

section
variable {B0 : Nat} {W0 : World} {ν : Nu} {h : H} {w : World}

theorem H.get_put (h : H) {n : Nat} (hn : n < top) (b : B) (m : Nat) : (h.put n b).get m = if m = n then b else h.get m := by
  rw [H.put_eq]
  exact Tr.get_set16 h.t n b hn m

theorem ObR.lt {ν : Nu} {x : B} {sl b : Nat} {w : World} (r : ObR ν x sl (w.heap[b]?)) : b < w.heap.size := by
  rcases Nat.lt_or_ge b w.heap.size with hb | hb
  · exact hb
  · rw [Array.getElem?_eq_none hb] at r
    cases x with
    | row k t e z o => obtain ⟨cur, h1, _⟩ := r; cases h1
    | map es c => obtain ⟨l, h1, _⟩ := r; cases h1
    | none => exact r.elim
    | dead => exact r.elim

theorem Ga.congr {h' : H} (g : Ga B0 W0 ν h w) (e : ∀ n, h'.get n = h.get n) : Ga B0 W0 ν h' w where
  below := g.below
  base := g.base
  no := fun n hn => g.no n (by rw [← e n]; exact hn)
  lim := fun n hn => g.lim n (by rw [← e n]; exact hn)
  obj := fun n hn => by rw [e n] at hn ⊢; exact g.obj n hn
  inj := fun n m y y' hn hm => by rw [e n] at hn; rw [e m] at hm; exact g.inj n m y y' hn hm

/-- The world is another one, the same blocks. -/
theorem Ga.world {w' : World} (g : Ga B0 W0 ν h w) (hb : Below B0 W0 w') (e : w'.heap = w.heap) : Ga B0 W0 ν h w' where
  below := hb
  base := by rw [e]; exact g.base
  no := g.no
  lim := g.lim
  obj := by rw [e]; exact g.obj
  inj := g.inj

theorem Ga.drew (g : Ga B0 W0 ν h w) : Ga B0 W0 ν h w.drew := g.world g.below.drew rfl

/-- One name's block is set, or new. -/
theorem Ga.put {ν' : Nu} {w' : World} {n : Nat} {x : B} (g : Ga B0 W0 ν h w) (hle : ν.le ν') (hb : Below B0 W0 w') (base : B0 ≤ w'.heap.size) (hn : n < top) (hx : x ≠ .none)
    (hν : ∀ m, m ≠ n → h.get m = .none → ν' m = none)
    (keep : ∀ m y, m ≠ n → live (h.get m) = true → ν m = some y → w'.heap[y.1]? = w.heap[y.1]?)
    (fresh : live x = true → ∃ y, ν' n = some y ∧ B0 ≤ y.1 ∧ ObR ν' x y.2 (w'.heap[y.1]?) ∧ ∀ m y', m ≠ n → live (h.get m) = true → ν m = some y' → y'.1 ≠ y.1) :
    Ga B0 W0 ν' (h.put n x) w' := by
  have hget := H.get_put h hn x
  refine ⟨hb, base, fun m hm => ?_, fun m hm => ?_, fun m hm => ?_, fun m m' y y' hm hm' hy hy' e => ?_⟩
  · rw [hget] at hm
    by_cases hmn : m = n
    · rw [if_pos hmn] at hm; exact absurd hm hx
    · rw [if_neg hmn] at hm; exact hν m hmn hm
  · rw [hget] at hm
    by_cases hmn : m = n
    · rw [hmn]; exact hn
    · rw [if_neg hmn] at hm; exact g.lim m hm
  · rw [hget] at hm ⊢
    by_cases hmn : m = n
    · rw [if_pos hmn] at hm ⊢
      obtain ⟨y, h1, h2, h3, _⟩ := fresh hm
      exact ⟨y, by rw [hmn]; exact h1, h2, h3⟩
    · rw [if_neg hmn] at hm ⊢
      obtain ⟨y, h1, h2, h3⟩ := g.obj m hm
      exact ⟨y, hle m y h1, h2, by rw [keep m y hmn hm h1]; exact h3.mono hle⟩
  · rw [hget] at hm hm'
    by_cases hmn : m = n
    · by_cases hmn' : m' = n
      · rw [hmn, hmn']
      · rw [if_pos hmn] at hm
        rw [if_neg hmn'] at hm'
        obtain ⟨z, h1, _, _, h4⟩ := fresh hm
        obtain ⟨z', k1, _, _⟩ := g.obj m' hm'
        have e1 : y = z := by rw [hmn, h1] at hy; exact (Option.some.inj hy).symm
        have e2 : y' = z' := by rw [hle m' z' k1] at hy'; exact (Option.some.inj hy').symm
        exact absurd (by rw [← e1, ← e2]; exact e.symm) (h4 m' z' hmn' hm' k1)
    · by_cases hmn' : m' = n
      · rw [if_neg hmn] at hm
        rw [if_pos hmn'] at hm'
        obtain ⟨z, h1, _, _, h4⟩ := fresh hm'
        obtain ⟨z', k1, _, _⟩ := g.obj m hm
        have e1 : y' = z := by rw [hmn', h1] at hy'; exact (Option.some.inj hy').symm
        have e2 : y = z' := by rw [hle m z' k1] at hy; exact (Option.some.inj hy).symm
        exact absurd (by rw [← e1, ← e2]; exact e) (h4 m z' hmn hm k1)
      · rw [if_neg hmn] at hm
        rw [if_neg hmn'] at hm'
        obtain ⟨z, k1, _, _⟩ := g.obj m hm
        obtain ⟨z', k1', _, _⟩ := g.obj m' hm'
        have e1 : y = z := by rw [hle m z k1] at hy; exact (Option.some.inj hy).symm
        have e2 : y' = z' := by rw [hle m' z' k1'] at hy'; exact (Option.some.inj hy').symm
        exact g.inj m m' z z' hm hm' k1 k1' (by rw [← e1, ← e2]; exact e)

theorem Ga.dead (g : Ga B0 W0 ν h w) {n : Nat} (hn : h.get n ≠ .none) : Ga B0 W0 ν (h.put n .dead) w :=
  g.put (Nu.le_refl ν) g.below g.base (g.lim n hn) (by simp) (fun m _ hm => g.no m hm) (fun _ _ _ _ _ => rfl) (fun hl => by simp [live] at hl)

/-- The row of a name. -/
theorem Ga.row (g : Ga B0 W0 ν h w) {n k : Nat} {t : Tr S} {e z : Nat} {o : Bool} (hn : h.get n = .row k t e z o) :
    ∃ b sl cur, ν n = some (b, sl) ∧ B0 ≤ b ∧ b < w.heap.size ∧ w.heap[b]? = some (.cells cur e (0, 0)) ∧ RowR ν k t cur ∧ cur.size = k + sl * z ∧ (o = false → sl = 0) := by
  obtain ⟨⟨b, sl⟩, h1, h2, h3⟩ := g.obj n (by rw [hn]; rfl)
  have hlt := h3.lt
  rw [hn] at h3
  obtain ⟨cur, k1, k2, k3, k4⟩ := h3
  exact ⟨b, sl, cur, h1, h2, hlt, k1, k2, k3, k4⟩

/-- A row's cells are set. -/
theorem Ga.setRow (g : Ga B0 W0 ν h w) {n k : Nat} {t t' : Tr S} {e z : Nat} {o : Bool} (hn : h.get n = .row k t e z o) {b sl : Nat} {cur cur' : Array Value}
    (hν : ν n = some (b, sl)) (hw : w.heap[b]? = some (.cells cur e (0, 0))) (hr : RowR ν k t' cur') (hs : cur'.size = cur.size) :
    Ga B0 W0 ν (h.put n (.row k t' e z o)) (w.setRow b cur') := by
  obtain ⟨b1, sl1, cur1, h1, h2, _, h3, _, h5, h6⟩ := g.row hn
  rw [hν] at h1
  obtain ⟨rfl, rfl⟩ := Prod.mk.inj (Option.some.inj h1)
  rw [hw] at h3
  obtain rfl : cur = cur1 := by injection h3 with h3; injection h3
  have hl : live (h.get n) = true := by rw [hn]; rfl
  refine g.put (Nu.le_refl ν) (below_setRow g.below h2 cur') (by rw [setRow_size]; exact g.base) (g.lim n (by rw [hn]; simp)) (by simp) (fun m _ hm => g.no m hm) (fun m y hmn hm hy => ?_) (fun _ => ?_)
  · exact setRow_other w b y.1 cur' fun e => hmn (g.inj m n y (b, sl) hm hl hy hν e)
  · exact ⟨(b, sl), hν, h2, ⟨cur', setRow_heap w b cur cur' e (0, 0) hw, hr, by rw [hs]; exact h5, h6⟩, fun m y hmn hm hy e => hmn (g.inj m n y (b, sl) hm hl hy hν e)⟩

theorem H.new_eq {x : B} {n : Nat} {h' : H} (hh : h.new x = some (n, h')) : n < top ∧ h.get n = .none ∧ (∀ m, h'.get m = (h.put n x).get m) := by
  obtain ⟨t, nx⟩ := h
  have hh' : cond (Nat.blt nx top && isNone (t.get nx)) (fBk x fun b => Tr.setK 16 t nx b fun t => some (nx, (⟨t, Nat.succ nx⟩ : H))) none = some (n, h') := hh
  rw [fBk_eq, Tr.setK_eq] at hh'
  cases hc : (Nat.blt nx top && isNone (t.get nx)) with
  | false => simp [hc] at hh'
  | true =>
    simp only [hc, cond_true, Option.some.injEq, Prod.mk.injEq] at hh'
    obtain ⟨rfl, rfl⟩ := hh'
    simp only [Bool.and_eq_true] at hc
    refine ⟨Nat.le_of_ble_eq_true hc.1, ?_, fun m => by rw [H.put_eq]; rfl⟩
    have := hc.2
    show t.get nx = .none
    cases hg : t.get nx <;> simp [hg, isNone] at this
    rfl

def Nu.upd (ν : Nu) (n : Nat) (y : Nat × Nat) : Nu := fun m => if m = n then some y else ν m

theorem Nu.le_upd {ν : Nu} {n : Nat} {y : Nat × Nat} (hn : ν n = none) : ν.le (ν.upd n y) := fun m z hm => by
  unfold Nu.upd
  by_cases e : m = n
  · rw [e, hn] at hm; cases hm
  · rw [if_neg e]; exact hm

/-- A new block. -/
theorem Ga.new (g : Ga B0 W0 ν h w) {x : B} {n : Nat} {h' : H} (hh : h.new x = some (n, h')) (hx : x ≠ .none) (sl : Nat) (ob : Obj) (hob : ObR ν x sl (some ob)) :
    ν.le (ν.upd n (w.heap.size, sl)) ∧ Ga B0 W0 (ν.upd n (w.heap.size, sl)) h' (w.alloc ob) := by
  obtain ⟨hn, hno, hget⟩ := H.new_eq hh
  have hle := Nu.le_upd (y := (w.heap.size, sl)) (g.no n hno)
  refine ⟨hle, (g.put hle (g.below.alloc g.base ob) (by simp; have := g.base; omega) hn hx (fun m hmn hm => ?_) (fun m y hmn hm hy => ?_) (fun _ => ?_)).congr hget⟩
  · unfold Nu.upd; rw [if_neg hmn]; exact g.no m hm
  · obtain ⟨y', h1, _, h3⟩ := g.obj m hm
    have : y = y' := by rw [hy] at h1; exact Option.some.inj h1
    rw [this]
    exact heap_alloc_old w ob _ h3.lt
  · refine ⟨(w.heap.size, sl), by simp [Nu.upd], g.base, ?_, fun m y hmn hm hy e => ?_⟩
    · show ObR _ x sl ((w.alloc ob).heap[w.heap.size]?)
      rw [heap_alloc_new w ob]
      exact hob.mono hle
    · obtain ⟨y', h1, _, h3⟩ := g.obj m hm
      have : y = y' := by rw [hy] at h1; exact Option.some.inj h1
      rw [this] at e
      have := h3.lt
      simp only at e
      omega

/-- A block whose elder name is dead gets a new name and new cells. -/
theorem Ga.rename (g : Ga B0 W0 ν h w) {n k : Nat} {t : Tr S} {e z : Nat} {o : Bool} (hn : h.get n = .row k t e z o) {b sl : Nat} {cur cur' : Array Value}
    (hν : ν n = some (b, sl)) (hw : w.heap[b]? = some (.cells cur e (0, 0))) {k' : Nat} {t' : Tr S} {m : Nat} {h' : H} (hh : (h.put n .dead).new (.row k' t' e z true) = some (m, h'))
    (hr : RowR ν k' t' cur') (sl' : Nat) (hs : cur'.size = k' + sl' * z) :
    ν.le (ν.upd m (b, sl')) ∧ Ga B0 W0 (ν.upd m (b, sl')) h' (w.setRow b cur') := by
  obtain ⟨b1, sl1, cur1, h1, h2, _, h3, _, h5, h6⟩ := g.row hn
  rw [hν] at h1
  obtain ⟨rfl, rfl⟩ := Prod.mk.inj (Option.some.inj h1)
  have hl : live (h.get n) = true := by rw [hn]; rfl
  have hnn : h.get n ≠ .none := by rw [hn]; simp
  have g1 := g.dead hnn
  obtain ⟨hm, hno, hget⟩ := H.new_eq hh
  have hle := Nu.le_upd (y := (b, sl')) (g1.no m hno)
  have hgd := H.get_put h (g.lim n hnn) .dead
  have other : ∀ i y, live ((h.put n .dead).get i) = true → ν i = some y → y.1 ≠ b := fun i y hi hy e => by
    rw [hgd] at hi
    by_cases hin : i = n
    · rw [if_pos hin] at hi; simp [live] at hi
    · rw [if_neg hin] at hi; exact hin (g.inj i n y (b, sl) hi hl hy hν e)
  refine ⟨hle, (g1.put hle (below_setRow g1.below h2 cur') (by rw [setRow_size]; exact g1.base) hm (by simp) (fun i hin hi => ?_) (fun i y hin hi hy => ?_) (fun _ => ?_)).congr hget⟩
  · unfold Nu.upd; rw [if_neg hin]; exact g1.no i hi
  · exact setRow_other w b y.1 cur' (other i y hi hy)
  · exact ⟨(b, sl'), by simp [Nu.upd], h2, ⟨cur', setRow_heap w b cur cur' e (0, 0) hw, hr.mono hle, hs, fun e => by cases e⟩, fun i y _ hi hy => other i y hi hy⟩

/-- A map's entries are set. -/
theorem Ga.setMap (g : Ga B0 W0 ν h w) {n : Nat} {es es' : List (W × W × Nat)} {c c' : Nat} (hn : h.get n = .map es c) {b sl : Nat} {l' : List MapEntry} (hν : ν n = some (b, sl)) (hl' : cvEs ν es' = some l') :
    Ga B0 W0 ν (h.put n (.map es' c')) { w with heap := w.heap.setIfInBounds b (.map l'.toArray c') } := by
  obtain ⟨⟨b1, sl1⟩, h1, h2, h3⟩ := g.obj n (by rw [hn]; rfl)
  rw [hν] at h1
  obtain ⟨rfl, rfl⟩ := Prod.mk.inj (Option.some.inj h1)
  have hlt := h3.lt
  have hl : live (h.get n) = true := by rw [hn]; rfl
  have hb' : Below B0 w { w with heap := w.heap.setIfInBounds b (.map l'.toArray c') } := ⟨rfl, rfl, rfl, by simp, fun k hk => by
    have : ¬ b = k := by simp only at h2; omega
    simp [Array.getElem?_setIfInBounds_ne this]⟩
  refine g.put (Nu.le_refl ν) (g.below.trans hb') (by simpa using g.base) (g.lim n (by rw [hn]; simp)) (by simp) (fun m _ hm => g.no m hm) (fun m y hmn hm hy => ?_) (fun _ => ?_)
  · have : ¬ b = y.1 := fun e => hmn (g.inj m n y (b, sl) hm hl hy hν e.symm)
    simp [Array.getElem?_setIfInBounds_ne this]
  · refine ⟨(b, sl), hν, h2, ⟨l', ?_, hl'⟩, fun m y hmn hm hy e => hmn (g.inj m n y (b, sl) hm hl hy hν e)⟩
    simp only at hlt
    simp [hlt]

end
end Ai
end Go.Proofs.YtjmhkcfdmcjilaaGreat
