/-
  Regions that draw their order: what may be taken ahead of others is taken ahead; the rest comes up in one order.
-/
import Derived.Test.YtjmhkcfdmcjilaaGreatAiK
namespace Go.Proofs.YtjmhkcfdmcjilaaGreat
namespace Ai
open Go.RowKit
section
variable {P : Program} {ops : Array Oper} {Q : Exit → Act → World → Prop}

/-- Whatever order, and at each moment I is so. -/
def wpAnyI (P : Program) (ops : Array Oper) (Q : Exit → Act → World → Prop) (I : Array Bool → World → Prop) : Nat → Array Bool → Act → World → Prop
  | 0, listed, a, w => I listed w ∧ Region.ready .any ops listed = [] ∧ Q .normal a w
  | n + 1, listed, a, w => I listed w ∧ (Region.ready .any ops listed = [] → Q .normal a w) ∧
    ∀ i ∈ Region.ready .any ops listed, wpOp P ops Q i (wpAnyI P ops Q I n (listed.setIfInBounds i true)) a w

theorem wpAnyI_any {I : Array Bool → World → Prop} : ∀ (n : Nat) {listed : Array Bool} {a : Act} {w : World}, wpAnyI P ops Q I n listed a w → wpAny P .any ops Q n listed a w
  | 0, _, _, _, h => h.2
  | n + 1, _, _, _, h => ⟨h.2.1, fun i hi => wpOp_mono (fun _ _ => wpAnyI_any n) (h.2.2 i hi)⟩

theorem wpAnyI_inv {I : Array Bool → World → Prop} : ∀ (n : Nat) {listed : Array Bool} {a : Act} {w : World}, wpAnyI P ops Q I n listed a w → I listed w
  | 0, _, _, _, h => h.1
  | _ + 1, _, _, _, h => h.1

/-- I turned, on sets that hold some. -/
theorem wpAnyI_mono {I I' : Array Bool → World → Prop} {K : Array Bool → Prop} (hK : ∀ l i, K l → K (l.setIfInBounds i true)) (h : ∀ l w, K l → I l w → I' l w) :
    ∀ (n : Nat) {listed : Array Bool} {a : Act} {w : World}, K listed → wpAnyI P ops Q I n listed a w → wpAnyI P ops Q I' n listed a w
  | 0, _, _, _, k, x => ⟨h _ _ k x.1, x.2⟩
  | n + 1, _, _, _, k, x => ⟨h _ _ k x.1, x.2.1, fun i hi => wpOp_mono (fun _ _ => wpAnyI_mono hK h n (hK _ _ k)) (x.2.2 i hi)⟩

theorem wpOp_put' {i j : Nat} {oi oj : Oper} {v : Value} {Y : Act → Prop} (hj : ops[j]? = some oj) (hap : oi.apart ops oj = true)
    (hsj : ∀ cs b, oj.op ≠ .select cs b)
    (hQ : ∀ c a w, ¬ Q (.panic c) a w) {K : Act → World → Prop} {a : Act} {w : World}
    (keep : ∀ a u, Y a → Y (a.put oj.dst u)) (keepD : ∀ a d, Y a → Y { a with defers := d :: a.defers })
    (hy : Y a) (h : wpOp P ops Q j K (a.put oi.dst v) w) :
    wpOp P ops Q j (fun a' w' => Y a' ∧ K (a'.put oi.dst v) w') a w := by
  have _ := i
  obtain ⟨h1, h2, h3⟩ := Oper.apart_spec hap
  unfold wpOp at *
  simp only [hj] at *
  rw [wanted_put oj a oi.dst v h1] at h
  split
  · rename_i hw
    simp only [hw, if_true] at h
    rcases h with h | ⟨hasks, hlets⟩
    case inr => exact .inr ⟨by unfold Oper.asks at *; rw [execOp_put oj hsj a oi.dst v h1] at hasks; exact hasks, hlets⟩
    refine .inl ?_
    unfold Oper.wp at *
    rw [execOp_put oj hsj a oi.dst v h1] at h
    generalize (execOp a.eval oj).run P w = r at *
    cases r with
    | ok n w' =>
      cases n <;> simp only [Oper.upon] at h ⊢
      case value u => exact ⟨keep a u hy, by rw [← Act.put_comm a v u h2]; exact h⟩
      case skip => exact ⟨keep a _ hy, by rw [← Act.put_comm a v undef h2]; exact h⟩
      case defer d =>
        refine ⟨keep _ _ (keepD a d hy), ?_⟩
        rw [← Act.put_comm _ v undef h2, ← Act.put_defers]
        exact h
      case enter f args =>
        refine Calls.mono h fun e w'' he => ?_
        cases e with
        | returned u => exact ⟨keep a u hy, by rw [← Act.put_comm a v u h2]; exact he⟩
        | panicked c => exact absurd he (hQ _ _ _)
        | outgrown => exact he
      case row row args => exact Rows.mono h fun u w'' he => ⟨keep a u hy, by rw [← Act.put_comm a v u h2]; exact he⟩
    | halt x w' =>
      cases x <;> simp only [Oper.upon] at h ⊢
      case panic u => exact absurd h (hQ _ _ _)
  · rename_i hw
    simp only [hw] at h
    exact ⟨keep a _ hy, by rw [← Act.put_comm a v undef h2]; exact h⟩

/-- What an operation yields, in all worlds of which J is so. -/
def YieldsJ (P : Program) (ops : Array Oper) (J : World → Prop) (o : Oper) (v : Value) (a : Act) : Prop :=
  (Region.wanted o (yielded ops a.tmps) = true ∧ ∀ w, J w → (execOp a.eval o).run P w = .ok (.value v) w) ∨ (Region.wanted o (yielded ops a.tmps) = false ∧ v = undef)

theorem YieldsJ.wpOp {J : World → Prop} {i : Nat} {o : Oper} {v : Value} {a : Act} (hi : ops[i]? = some o) (hy : YieldsJ P ops J o v a) {K : Act → World → Prop} {w : World} (hw : J w) (h : K (a.put o.dst v) w) : wpOp P ops Q i K a w := by
  unfold Go.wpOp
  simp only [hi]
  rcases hy with ⟨h1, h2⟩ | ⟨h1, rfl⟩
  · simp only [h1, if_true, Oper.wp, h2 w hw, Oper.upon]; exact .inl h
  · simp only [h1, Bool.false_eq_true, if_false]; exact h

theorem YieldsJ.put {J : World → Prop} {o oj : Oper} {v : Value} {a : Act} (hsi : ∀ cs b, o.op ≠ .select cs b) (h3 : ∀ d, oj.dst = some d → d ∉ o.looksAt ops) (hy : YieldsJ P ops J o v a) (u : Value) : YieldsJ P ops J o v (a.put oj.dst u) := by
  unfold YieldsJ at *
  rw [execOp_put o hsi a oj.dst u h3, wanted_put o a oj.dst u h3]
  exact hy

/-- Every listed one's forerunners are listed. -/
def Closed (ops : Array Oper) (l : Array Bool) : Prop :=
  l.size = ops.size ∧ ∀ k o, ops[k]? = some o → l.getD k false = true → ∀ e ∈ o.after, Region.binds .any e = true → l.getD e.on false = true

theorem Closed.set {l : Array Bool} (c : Closed ops l) {i : Nat} (hi : i ∈ Region.ready .any ops l) : Closed ops (l.setIfInBounds i true) := by
  obtain ⟨_, oi, hoi, hall⟩ := mem_ready.1 hi
  refine ⟨by simp [c.1], fun k o ho hk e he hb => ?_⟩
  by_cases hki : i = k
  · subst hki
    rw [hoi] at ho
    obtain rfl := Option.some.inj ho
    exact getD_set_true (hall e he hb)
  · rw [getD_set_ne false hki] at hk
    exact getD_set_true (c.2 k o ho hk e he hb)

theorem getD_set_same {l : Array Bool} {i : Nat} (h : i < l.size) : (l.setIfInBounds i true).getD i false = true := by simp [h]

theorem set_set {l : Array Bool} {i : Nat} : (l.setIfInBounds i true).setIfInBounds i true = l.setIfInBounds i true := by
  apply Array.ext'
  simp

theorem set_of_true {l : Array Bool} {i : Nat} (h : l.getD i false = true) : l.setIfInBounds i true = l := by
  apply Array.ext
  · simp
  · intro k h1 h2
    by_cases e : i = k
    · subst e
      have h3 : l.getD i false = l[i]'h2 := by simp [h2]
      rw [h3] at h
      simp [h]
    · rw [Array.getElem_setIfInBounds_ne h2 e]

/-- An operation that may come up, and that yields the same value as long as I is so, may be taken first. -/
theorem firstI {I : Array Bool → World → Prop} {J : World → Prop} {i : Nat} {oi : Oper} {v : Value} (hi : ops[i]? = some oi) (hsel : ∀ (j : Nat) (o : Oper) cs b, ops[j]? = some o → o.op ≠ .select cs b)
    (hQ : ∀ c a w, ¬ Q (.panic c) a w) (hJ : ∀ l w, Closed ops l → l.getD i true = false → I (l.setIfInBounds i true) w → J w) :
    ∀ (fuel : Nat) (listed : Array Bool) (a : Act) (w : World), Closed ops listed →
      (∀ j oj, ops[j]? = some oj → j ≠ i → listed.getD j true = false → (∀ e ∈ oj.after, Region.binds .any e = true → e.on ≠ i) → oi.apart ops oj = true) →
      i ∈ Region.ready .any ops listed → YieldsJ P ops J oi v a →
      wpAnyI P ops Q I fuel (listed.setIfInBounds i true) (a.put oi.dst v) w → wpAnyI P ops Q (fun l => I (l.setIfInBounds i true)) (fuel + 1) listed a w := by
  have same : ∀ (fuel : Nat) (l : Array Bool) (a : Act) (w : World), wpAnyI P ops Q I fuel (l.setIfInBounds i true) a w → wpAnyI P ops Q (fun l => I (l.setIfInBounds i true)) fuel (l.setIfInBounds i true) a w := fun fuel l a w h =>
    wpAnyI_mono (K := fun l => l.setIfInBounds i true = l) (fun l k hl => by
        by_cases hki : k = i
        · rw [hki, set_set]
        · rw [Array.setIfInBounds_comm _ _ hki, hl])
      (fun l w hl h => by rw [hl]; exact h) fuel set_set h
  intro fuel
  induction fuel with
  | zero =>
    intro listed a w hc _ hr hy H
    refine ⟨wpAnyI_inv 0 H, fun h => (by rw [h] at hr; cases hr), fun j hj => ?_⟩
    by_cases hji : j = i
    · subst hji
      exact hy.wpOp hi (hJ listed w hc (mem_ready.1 hr).1 (wpAnyI_inv 0 H)) (same 0 _ _ _ H)
    · have := ready_mono hj hji
      rw [H.2.1] at this
      cases this
  | succ fuel ih =>
    intro listed a w hc hfree hr hy H
    refine ⟨wpAnyI_inv _ H, fun h => (by rw [h] at hr; cases hr), fun j hj => ?_⟩
    by_cases hji : j = i
    · subst hji
      exact hy.wpOp hi (hJ listed w hc (mem_ready.1 hr).1 (wpAnyI_inv _ H)) (same _ _ _ _ H)
    · have h1 := H.2.2 j (ready_mono hj hji)
      obtain ⟨hjun, oj, hoj, hall⟩ := mem_ready.1 hj
      have hnot : ∀ e ∈ oj.after, Region.binds .any e = true → e.on ≠ i := fun e he hb heq => by
        have h1 := hall e he hb
        have h0 := (mem_ready.1 hr).1
        rw [heq] at h1
        rcases Nat.lt_or_ge i listed.size with h' | h'
        · simp [h'] at h0 h1; rw [h0] at h1; cases h1
        · simp [Array.getElem?_eq_none h'] at h1
      have hap := hfree j oj hoj hji hjun hnot
      obtain ⟨_, _, hd3⟩ := Oper.apart_spec hap
      have h2 := wpOp_put' (i := i) (Y := YieldsJ P ops J oi v) hoj hap (fun cs b => hsel j oj cs b hoj) hQ (fun a u hy => hy.put (fun cs b => hsel i oi cs b hi) hd3 u) (fun a d hy => hy) hy h1
      have hfree' : ∀ k ok, ops[k]? = some ok → k ≠ i → (listed.setIfInBounds j true).getD k true = false →
          (∀ e ∈ ok.after, Region.binds .any e = true → e.on ≠ i) → oi.apart ops ok = true := fun k ok hk hki hun hno => by
        refine hfree k ok hk hki ?_ hno
        by_cases hjk : j = k
        · subst hjk; exact hjun
        · rw [getD_set_ne true hjk] at hun; exact hun
      refine wpOp_mono (fun a' w' h3 => ih (listed.setIfInBounds j true) a' w' (hc.set hj) hfree' (ready_mono hr (Ne.symm hji)) h3.1 ?_) h2
      rw [Array.setIfInBounds_comm _ _ hji]
      exact h3.2

/-- k waits for i, through others. -/
inductive Aft (ops : Array Oper) (i : Nat) : Nat → Prop where
  | one {k o e} : ops[k]? = some o → e ∈ o.after → Region.binds .any e = true → e.on = i → Aft ops i k
  | more {k o e m} : ops[k]? = some o → e ∈ o.after → Region.binds .any e = true → e.on = m → Aft ops i m → Aft ops i k

theorem Aft.listed {i k : Nat} (h : Aft ops i k) {l : Array Bool} (c : Closed ops l) (hk : l.getD k false = true) : l.getD i false = true := by
  induction h with
  | one ho he hb hi => rw [← hi]; exact c.2 _ _ ho hk _ he hb
  | more ho he hb hm _ ih => exact ih (by rw [← hm]; exact c.2 _ _ ho hk _ he hb)

end
end Ai
end Go.Proofs.YtjmhkcfdmcjilaaGreat
