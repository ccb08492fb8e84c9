/-
  A long run in parts: a call that was reckoned once, in a memory that is written out, stands in for itself.
-/
import Derived.Test.YtjmhkcfdmcjilaaGreatAiQ
namespace Go.Proofs.YtjmhkcfdmcjilaaGreat
namespace Ai
open Go.RowKit
section
variable {P : Program} {B0 : Nat} {W0 : World}

def allNone : Tr B → Bool
  | .leaf b => isNone b
  | .node b l r => isNone b && allNone l && allNone r

/-- All of it that lies below k is 'a' (the tree's numbers are b, b + s, b + 2 s, ..). -/
def allT (k : Nat) (a : S) : Tr S → (b s : Nat) → Bool
  | .leaf c, b, _ => cond (Nat.ble k b) true (decide (c = a))
  | .node c l r, b, s => cond (Nat.ble k b) true (decide (c = a) && allT k a l (b + s) (2 * s) && allT k a r (b + 2 * s) (2 * s))

/-- Two trees that say the same below k. -/
def eqT (k : Nat) : Tr S → (b s : Nat) → Tr S → Bool
  | .leaf a, b, s, t2 => allT k a t2 b s
  | .node a l r, b, s, t2 => cond (Nat.ble k b) true (decide (t2.val = a) && eqT k l (b + s) (2 * s) t2.left && eqT k r (b + 2 * s) (2 * s) t2.right)

theorem allT_ok {k : Nat} {a : S} : ∀ {t : Tr S} {b s : Nat}, 0 < s → allT k a t b s = true → ∀ j, b + s * j < k → t.get j = a
  | .leaf c, b, s, hs, h, j, hj => by
    rw [Tr.get_leaf]
    unfold allT at h
    cases hb : Nat.ble k b with
    | true =>
      have h1 := Nat.le_of_ble_eq_true hb
      have : 0 ≤ s * j := Nat.zero_le _
      omega
    | false => rw [hb] at h; simpa using h
  | .node c l r, b, s, hs, h, j, hj => by
    unfold allT at h
    cases hb : Nat.ble k b with
    | true =>
      have h1 := Nat.le_of_ble_eq_true hb
      have : 0 ≤ s * j := Nat.zero_le _
      omega
    | false =>
      rw [hb] at h
      simp only [cond_false, Bool.and_eq_true, decide_eq_true_eq] at h
      cases j with
      | zero => rw [Tr.get_zero]; exact h.1.1
      | succ m =>
        rw [Tr.get_succ]
        simp only [Tr.left_node, Tr.right_node]
        have e1 : s * (m + 1) = s * m + s := by rw [Nat.mul_succ]
        have e2 : 2 * s * (m / 2) = s * (2 * (m / 2)) := by rw [Nat.mul_comm 2 s, Nat.mul_assoc]
        cases hm : Nat.beq (m % 2) 0 with
        | true =>
          have hm' := Nat.eq_of_beq_eq_true hm
          have e3 : 2 * (m / 2) = m := by omega
          rw [e3] at e2
          exact allT_ok (by omega) h.1.2 _ (by omega)
        | false =>
          have hm' := Nat.ne_of_beq_eq_false hm
          have e3 : 2 * (m / 2) + 1 = m := by omega
          have e4 : s * m = s * (2 * (m / 2)) + s := by rw [← Nat.mul_succ]; congr 1; omega
          exact allT_ok (by omega) h.2 _ (by omega)

theorem eqT_ok {k : Nat} : ∀ {t1 : Tr S} {b s : Nat} {t2 : Tr S}, 0 < s → eqT k t1 b s t2 = true → ∀ j, b + s * j < k → t2.get j = t1.get j
  | .leaf a, b, s, t2, hs, h, j, hj => by
    rw [Tr.get_leaf]
    exact allT_ok hs h j hj
  | .node a l r, b, s, t2, hs, h, j, hj => by
    unfold eqT at h
    cases hb : Nat.ble k b with
    | true =>
      have h1 := Nat.le_of_ble_eq_true hb
      have : 0 ≤ s * j := Nat.zero_le _
      omega
    | false =>
      rw [hb] at h
      simp only [cond_false, Bool.and_eq_true, decide_eq_true_eq] at h
      cases j with
      | zero => rw [Tr.get_zero, Tr.get_zero]; exact h.1.1
      | succ m =>
        rw [Tr.get_succ, Tr.get_succ]
        simp only [Tr.left_node, Tr.right_node]
        have e1 : s * (m + 1) = s * m + s := by rw [Nat.mul_succ]
        have e2 : 2 * s * (m / 2) = s * (2 * (m / 2)) := by rw [Nat.mul_comm 2 s, Nat.mul_assoc]
        cases hm : Nat.beq (m % 2) 0 with
        | true =>
          have hm' := Nat.eq_of_beq_eq_true hm
          have e3 : 2 * (m / 2) = m := by omega
          rw [e3] at e2
          exact eqT_ok (by omega) h.1.2 _ (by omega)
        | false =>
          have hm' := Nat.ne_of_beq_eq_false hm
          have e4 : s * m = s * (2 * (m / 2)) + s := by rw [← Nat.mul_succ]; congr 1; omega
          exact eqT_ok (by omega) h.2 _ (by omega)

def eqvB (b1 b2 : B) : Bool :=
  match b1, b2 with
  | .row k t1 e z o, .row k2 t2 e2 z2 o2 => Nat.beq k k2 && Nat.beq e e2 && Nat.beq z z2 && (o == o2) && eqT k t1 0 1 t2
  | b1, b2 => decide (b2 = b1)

theorem eqvB_ok {b1 b2 : B} (h : eqvB b1 b2 = true) : EqvB b1 b2 := by
  unfold eqvB at h
  split at h
  · rename_i k t1 e z o k2 t2 e2 z2 o2
    simp only [Bool.and_eq_true, beq_iff_eq] at h
    obtain ⟨⟨⟨⟨h1, h2⟩, h3⟩, rfl⟩, h5⟩ := h
    obtain rfl := Nat.eq_of_beq_eq_true h1
    obtain rfl := Nat.eq_of_beq_eq_true h2
    obtain rfl := Nat.eq_of_beq_eq_true h3
    exact .inr ⟨k, t1, t2, e, z, o, rfl, rfl, fun i hi => eqT_ok (by omega) h5 i (by omega)⟩
  · exact .inl (by simpa using h)

def okB (h2 : H) (b0 b1 b2 : B) : Bool := cond (isNone b2) (isNone b0) (eqvB b1 b2 && keepB h2 b2)

def sweptT (h2 : H) : Tr B → Tr B → Tr B → Bool
  | t0, _, .leaf b => isNone b && allNone t0
  | t0, t1, .node b l r => okB h2 t0.val t1.val b && sweptT h2 t0.left t1.left l && sweptT h2 t0.right t1.right r

theorem allNone_get : ∀ {t : Tr B}, allNone t = true → ∀ n, t.get n = .none
  | .leaf b, k, n => by rw [Tr.get_leaf]; exact isNone_iff.1 k
  | .node b l r, k, 0 => by
    simp only [allNone, Bool.and_eq_true] at k
    exact isNone_iff.1 k.1.1
  | .node b l r, k, n + 1 => by
    simp only [allNone, Bool.and_eq_true] at k
    rw [Tr.get_succ]
    simp only [Tr.left_node, Tr.right_node]
    cases Nat.beq (n % 2) 0
    · exact allNone_get k.2 _
    · exact allNone_get k.1.2 _

theorem sweptT_ok {h2 : H} : ∀ {t2 t0 t1 : Tr B}, sweptT h2 t0 t1 t2 = true → ∀ n, (t2.get n = .none ∧ t0.get n = .none) ∨ (EqvB (t1.get n) (t2.get n) ∧ keepB h2 (t2.get n) = true)
  | .leaf b, t0, t1, k, n => by
    simp only [sweptT, Bool.and_eq_true] at k
    exact .inl ⟨by rw [Tr.get_leaf]; exact isNone_iff.1 k.1, allNone_get k.2 n⟩
  | .node b l r, t0, t1, k, 0 => by
    simp only [sweptT, Bool.and_eq_true] at k
    have k1 := k.1.1
    unfold okB at k1
    rw [Tr.get_zero t0, Tr.get_zero t1]
    show (b = .none ∧ t0.val = .none) ∨ (EqvB t1.val b ∧ keepB h2 b = true)
    cases hb : isNone b with
    | true => rw [hb] at k1; exact .inl ⟨isNone_iff.1 hb, isNone_iff.1 k1⟩
    | false => rw [hb] at k1; simp only [cond_false, Bool.and_eq_true] at k1; exact .inr ⟨eqvB_ok k1.1, k1.2⟩
  | .node b l r, t0, t1, k, n + 1 => by
    simp only [sweptT, Bool.and_eq_true] at k
    rw [Tr.get_succ, Tr.get_succ t0, Tr.get_succ t1]
    simp only [Tr.left_node, Tr.right_node]
    cases Nat.beq (n % 2) 0
    · exact sweptT_ok k.2 _
    · exact sweptT_ok k.1.2 _

/-- A call that was reckoned: function, arguments, memory ahead; value, memory behind. -/
structure En where
  g : FuncId
  args : List V
  h : H
  v : V
  h2 : H

noncomputable def partOk (P : Program) (nat : Nat') (n : Nat) (e : En) : Bool :=
  match runK P nat n (.call e.g e.args) ⟨0, .leaf undefV⟩ e.h with
  | some r => decide (r.v = e.v) && sweptT e.h2 e.h.t r.h.t e.h2.t && keepV e.h2 e.v
  | none => false

def EnOk (P : Program) (e : En) : Prop := ∀ B0 W0, SoundCall P B0 W0 e.g e.args e.h e.v e.h2

theorem part_ok {nat : Nat'} (hm : P.follows .mixedOrders = true) (hname : Named P) (hnat : NatOk P nat) {n : Nat} {e : En} (h : partOk P nat n e = true) : EnOk P e := by
  intro B0 W0
  unfold partOk at h
  split at h
  · rename_i r hr
    simp only [Bool.and_eq_true, decide_eq_true_eq] at h
    obtain ⟨⟨h1, h2⟩, h3⟩ := h
    have s := (runK_ok (B0 := B0) (W0 := W0) hm hname hnat n).call e.g e.args _ e.h r hr
    rw [h1] at s
    exact sweep_ok s (fun m => sweptT_ok h2 m) h3
  · cases h

/-- With what was reckoned standing in. -/
def natWith : List En → Nat' → Nat'
  | [], nat => nat
  | e :: es, nat => fun g args h =>
    cond (Nat.beq e.g g && Nat.beq e.h.next h.next) (cond (decide (e.args = args) && decide (e.h = h)) (some (some (e.v, e.h2))) (natWith es nat g args h)) (natWith es nat g args h)

theorem natWith_ok {nat : Nat'} (hnat : NatOk P nat) : ∀ {es : List En}, (∀ e ∈ es, EnOk P e) → NatOk P (natWith es nat)
  | [], _ => hnat
  | e :: es, hes => by
    intro B0 W0 g args h v h' hh
    have rest := natWith_ok hnat (es := es) (fun x hx => hes x (by simp [hx]))
    have hh' : cond (Nat.beq e.g g && Nat.beq e.h.next h.next) (cond (decide (e.args = args) && decide (e.h = h)) (some (some (e.v, e.h2))) (natWith es nat g args h)) (natWith es nat g args h) = some (some (v, h')) := hh
    cases h1 : (Nat.beq e.g g && Nat.beq e.h.next h.next) with
    | false => rw [h1] at hh'; exact rest B0 W0 g args h v h' hh'
    | true =>
      rw [h1] at hh'
      simp only [cond_true] at hh'
      cases h2 : (decide (e.args = args) && decide (e.h = h)) with
      | false => rw [h2] at hh'; exact rest B0 W0 g args h v h' hh'
      | true =>
        rw [h2] at hh'
        simp only [cond_true, Option.some.injEq, Prod.mk.injEq] at hh'
        obtain ⟨rfl, rfl⟩ := hh'
        simp only [Bool.and_eq_true, decide_eq_true_eq] at h1 h2
        have hg : e.g = g := Nat.eq_of_beq_eq_true h1.1
        have := hes e (by simp) B0 W0
        rw [hg, h2.1, h2.2] at this
        exact this

/-- A closed call: in whatever world it is made, it gives what was reckoned, and below the world's first new block nothing turns. -/
theorem closed_of {e : En} (he : EnOk P e) (hargs : e.args = []) (hh : e.h.t = .leaf .none) {u : Value} (hu : absV u = some e.v) {fn : Func} {c : Code} (hf : P.funcs[e.g]? = some fn) (hb : fn.body = some c) (hname : Named P) (w : World) :
    Calls P e.g #[] w (fun x w' => x = .returned u ∧ Below w.heap.size w w') := by
  have ga : Ga w.heap.size w (fun _ => none) e.h w := by
    have hget : ∀ m, e.h.get m = .none := fun m => by unfold H.get; rw [hh]; exact Tr.get_leaf _ _
    refine ⟨Below.refl _ _, Nat.le_refl _, fun _ _ => rfl, fun m hm => ?_, fun m hm => ?_, fun m _ y _ hm _ hy => ?_⟩
    · exact absurd (hget m) hm
    · rw [hget m] at hm; cases hm
    · cases hy
  have s := he w.heap.size w
  rw [hargs] at s
  rcases s _ w #[] ga rfl with ⟨u', w', h1, _⟩ | ⟨_, h2⟩
  · exfalso
    have hnm := hname e.g fn hf
    simp [callFunc, hf, hb] at h1
    split at h1 <;> simp at h1
  · refine h2.mono fun x w' ⟨u', hx, ν', _, k2, k3⟩ => ⟨?_, k2.below⟩
    rw [absV_cv hu ν'] at k3
    rw [hx, ← Option.some.inj k3]

end
end Ai
end Go.Proofs.YtjmhkcfdmcjilaaGreat
