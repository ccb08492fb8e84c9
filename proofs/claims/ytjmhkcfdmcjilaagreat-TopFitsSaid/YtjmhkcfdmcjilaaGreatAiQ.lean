/-
  What the fast reckoner says is so. What a call leaves may be swept: names that nothing holds any more are dropped. A call that was reckoned once may stand in.
-/
import Derived.Test.YtjmhkcfdmcjilaaGreatAiN
import Derived.Test.YtjmhkcfdmcjilaaGreatAiP
namespace Go.Proofs.YtjmhkcfdmcjilaaGreat
namespace Ai
open Go.RowKit
section
variable {P : Program} {B0 : Nat} {W0 : World}

theorem stepK_ok {nat : Nat'} (hm : P.follows .mixedOrders = true) (hname : Named P) (hnat : NatOk P nat) {k : Nat} {ih : Task → F → H → Option Res} (G : Good P B0 W0 k ih) :
    Good P B0 W0 (k + 1) (stepK P nat ih) := by
  have G' := step_ok hm hname hnat G
  refine ⟨fun c f h res e => ?_, fun c f h res e => ?_, fun g args f h res e => ?_⟩
  · have e' : (codeK P c).out ih f h = some res := e
    rw [codeK_eq P nat] at e'
    exact G'.code c f h res e'
  · intro ν a w s Q hQ
    rw [rounds_succ]
    have e' : (match (codeK P c).out ih f h with
      | some ⟨.normal, f', h', _⟩ => ih (.loop c) f' h'
      | r => r) = some res := e
    rw [codeK_eq P nat] at e'
    split at e'
    · rename_i f1 h1 v1 hr
      refine G'.code c f h _ hr ν a w s _ fun ν' a' w' l1 s1 => ?_
      exact G.loop c f1 h1 res e' ν' a' w' s1 Q fun ν2 a2 w2 l2 s2 => hQ ν2 a2 w2 (Nu.le_trans l1 l2) s2
    · rename_i r hne
      refine G'.code c f h res e' ν a w s _ fun ν' a' w' l1 s1 => ?_
      have := hQ ν' a' w' l1 s1
      cases he : res.e with
      | normal =>
        exfalso
        obtain ⟨ee, ff, hh, vv⟩ := res
        simp only at he
        subst he
        exact hne ff hh vv e'
      | ret => rw [he] at this; exact this
      | exit id => rw [he] at this; exact this
  · refine G'.call g args f h res ?_
    have e' : (match nat g args h with
      | some (some (v, h')) => fV v fun v => some (⟨.normal, f, h', v⟩ : Res)
      | some none => none
      | none => (enterK P g).out ih args f h) = some res := e
    cases hn : nat g args h with
    | none => rw [hn] at e'; rw [← enterK_eq P nat g ih args f h hn]; exact e'
    | some q =>
      rw [hn] at e'
      cases q with
      | none => simp at e'
      | some r =>
        obtain ⟨v, h'⟩ := r
        simp only [fV_eq] at e'
        simp only [step, hn]
        exact e'

theorem runK_ok {nat : Nat'} (hm : P.follows .mixedOrders = true) (hname : Named P) (hnat : NatOk P nat) : ∀ n, Good P B0 W0 n (runK P nat n)
  | 0 => ⟨fun _ _ _ _ e => by simp [runK] at e, fun _ _ _ _ e => by simp [runK] at e, fun _ _ _ _ _ e => by simp [runK] at e⟩
  | n + 1 => stepK_ok hm hname hnat (runK_ok hm hname hnat n)

/-! ### Sweeping -/

def keepC (h : H) : C → Bool
  | .p n _ => !isNone (h.get n)
  | .i _ _ => true

def keepCs (h : H) : List C → Bool
  | [] => true
  | c :: l => keepC h c && keepCs h l

/-- All its names are names. -/
def keepS (h : H) : S → Bool
  | .p n _ | .sl n _ _ _ _ | .se n _ _ | .m n => !isNone (h.get n)
  | .f _ cs => keepCs h cs
  | .fc _ c => keepC h c
  | _ => true

def keepL (h : H) : List S → Bool
  | [] => true
  | x :: l => keepS h x && keepL h l

def keepW (h : H) : W → Bool
  | .s x => keepS h x
  | .a l => keepL h l

def keepWs (h : H) : List W → Bool
  | [] => true
  | x :: l => keepW h x && keepWs h l

def keepV (h : H) : V → Bool
  | .w x => keepW h x
  | .t l => keepWs h l

def keepEs (h : H) : List (W × W × Nat) → Bool
  | [] => true
  | e :: l => keepW h e.1 && keepW h e.2.1 && keepEs h l

/-- Everything that a tree says. -/
def keepT (h : H) : Tr S → Bool
  | .leaf a => keepS h a
  | .node a l r => keepS h a && keepT h l && keepT h r

def keepB (h : H) : B → Bool
  | .row _ t _ _ _ => keepT h t
  | .map es _ => keepEs h es
  | _ => true

theorem keepC_ok {h : H} {ν ν' : Nu} (hν : ∀ n y, isNone (h.get n) = false → ν n = some y → ν' n = some y) {c : C} {v : Value} (k : keepC h c = true) (e : cvC ν c = some v) : cvC ν' c = some v := by
  cases c with
  | i q x => exact e
  | p n off =>
    simp only [keepC, Bool.not_eq_true'] at k
    simp only [cvC] at e ⊢
    cases hn : ν n with
    | none => simp [hn] at e
    | some y => rw [hν n y k hn]; simpa [hn] using e

theorem keepCs_ok {h : H} {ν ν' : Nu} (hν : ∀ n y, isNone (h.get n) = false → ν n = some y → ν' n = some y) : ∀ {cs : List C} {vs : List Value}, keepCs h cs = true → cvCs ν cs = some vs → cvCs ν' cs = some vs
  | [], _, _, e => e
  | c :: l, vs, k, e => by
    simp only [keepCs, Bool.and_eq_true] at k
    simp only [cvCs] at e ⊢
    cases h1 : cvC ν c with
    | none => simp [h1] at e
    | some v =>
      cases h2 : cvCs ν l with
      | none => simp [h1, h2] at e
      | some ws => rw [keepC_ok hν k.1 h1, keepCs_ok hν k.2 h2]; simpa [h1, h2] using e

theorem keepS_ok {h : H} {ν ν' : Nu} (hν : ∀ n y, isNone (h.get n) = false → ν n = some y → ν' n = some y) {x : S} {v : Value} (k : keepS h x = true) (e : cvS ν x = some v) : cvS ν' x = some v := by
  cases x with
  | p n off =>
    simp only [keepS, Bool.not_eq_true'] at k
    simp only [cvS] at e ⊢
    cases hn : ν n with
    | none => simp [hn] at e
    | some y => rw [hν n y k hn]; simpa [hn] using e
  | sl n off len c o =>
    simp only [keepS, Bool.not_eq_true'] at k
    simp only [cvS] at e ⊢
    cases hn : ν n with
    | none => simp [hn] at e
    | some y => rw [hν n y k hn]; simpa [hn] using e
  | se n off d =>
    simp only [keepS, Bool.not_eq_true'] at k
    simp only [cvS] at e ⊢
    cases hn : ν n with
    | none => simp [hn] at e
    | some y => rw [hν n y k hn]; simpa [hn] using e
  | m n =>
    simp only [keepS, Bool.not_eq_true'] at k
    simp only [cvS] at e ⊢
    cases hn : ν n with
    | none => simp [hn] at e
    | some y => rw [hν n y k hn]; simpa [hn] using e
  | f g cs =>
    simp only [keepS] at k
    simp only [cvS] at e ⊢
    cases hn : cvCs ν cs with
    | none => simp [hn] at e
    | some y => rw [keepCs_ok hν k hn]; simpa [hn] using e
  | fc t c =>
    simp only [keepS] at k
    simp only [cvS] at e ⊢
    cases hn : cvC ν c with
    | none => simp [hn] at e
    | some y => rw [keepC_ok hν k hn]; simpa [hn] using e
  | _ => exact e

theorem keepL_ok {h : H} {ν ν' : Nu} (hν : ∀ n y, isNone (h.get n) = false → ν n = some y → ν' n = some y) : ∀ {l : List S} {vs : List Value}, keepL h l = true → cvL ν l = some vs → cvL ν' l = some vs
  | [], _, _, e => e
  | x :: l, vs, k, e => by
    simp only [keepL, Bool.and_eq_true] at k
    obtain ⟨v, ws, h1, h2, rfl⟩ := cvL_cons e
    exact cvL_mk (keepS_ok hν k.1 h1) (keepL_ok hν k.2 h2)

theorem keepW_ok {h : H} {ν ν' : Nu} (hν : ∀ n y, isNone (h.get n) = false → ν n = some y → ν' n = some y) {x : W} {v : Value} (k : keepW h x = true) (e : cvW ν x = some v) : cvW ν' x = some v := by
  cases x with
  | s x => exact keepS_ok hν k e
  | a l =>
    simp only [cvW] at e ⊢
    cases h1 : cvL ν l with
    | none => simp [h1] at e
    | some vs => rw [keepL_ok hν k h1]; simpa [h1] using e

theorem keepWs_ok {h : H} {ν ν' : Nu} (hν : ∀ n y, isNone (h.get n) = false → ν n = some y → ν' n = some y) : ∀ {l : List W} {vs : List Value}, keepWs h l = true → cvWs ν l = some vs → cvWs ν' l = some vs
  | [], _, _, e => e
  | x :: l, vs, k, e => by
    simp only [keepWs, Bool.and_eq_true] at k
    simp only [cvWs] at e ⊢
    cases h1 : cvW ν x with
    | none => simp [h1] at e
    | some v =>
      cases h2 : cvWs ν l with
      | none => simp [h1, h2] at e
      | some ws => rw [keepW_ok hν k.1 h1, keepWs_ok hν k.2 h2]; simpa [h1, h2] using e

theorem keepV_ok {h : H} {ν ν' : Nu} (hν : ∀ n y, isNone (h.get n) = false → ν n = some y → ν' n = some y) {x : V} {v : Value} (k : keepV h x = true) (e : cvV ν x = some v) : cvV ν' x = some v := by
  cases x with
  | w x => exact keepW_ok hν k e
  | t l =>
    simp only [cvV] at e ⊢
    cases h1 : cvWs ν l with
    | none => simp [h1] at e
    | some vs => rw [keepWs_ok hν k h1]; simpa [h1] using e

theorem keepEs_ok {h : H} {ν ν' : Nu} (hν : ∀ n y, isNone (h.get n) = false → ν n = some y → ν' n = some y) : ∀ {l : List (W × W × Nat)} {xs : List MapEntry}, keepEs h l = true → cvEs ν l = some xs → cvEs ν' l = some xs
  | [], _, _, e => e
  | x :: l, vs, k, e => by
    simp only [keepEs, Bool.and_eq_true] at k
    obtain ⟨y, ys, h1, h2, rfl⟩ := cvEs_cons e
    obtain ⟨kv, vv, h3, h4, rfl⟩ := cvE_of h1
    exact cvEs_mk (by simp [cvE, keepW_ok hν k.1.1 h3, keepW_ok hν k.1.2 h4]) (keepEs_ok hν k.2 h2)

theorem keepT_get {h : H} : ∀ {t : Tr S}, keepT h t = true → ∀ i, keepS h (t.get i) = true
  | .leaf a, k, i => by rw [Tr.get_leaf]; exact k
  | .node a l r, k, 0 => by
    simp only [keepT, Bool.and_eq_true] at k
    exact k.1.1
  | .node a l r, k, i + 1 => by
    simp only [keepT, Bool.and_eq_true] at k
    rw [Tr.get_succ]
    simp only [Tr.left_node, Tr.right_node]
    cases Nat.beq (i % 2) 0
    · exact keepT_get k.2 _
    · exact keepT_get k.1.2 _

theorem keepB_ok {h : H} {ν ν' : Nu} (hν : ∀ n y, isNone (h.get n) = false → ν n = some y → ν' n = some y) {b : B} {sl : Nat} {ob : Option Obj} (k : keepB h b = true) (e : ObR ν b sl ob) : ObR ν' b sl ob := by
  cases b with
  | none => exact e
  | dead => exact e
  | row q t el z o =>
    obtain ⟨cur, h1, h2, h3, h4⟩ := e
    refine ⟨cur, h1, ⟨h2.1, fun i hi => ?_⟩, h3, h4⟩
    rcases h2.2 i hi with h5 | ⟨v, h5, h6⟩
    · exact .inl h5
    · exact .inr ⟨v, h5, keepS_ok hν (keepT_get k i) h6⟩
  | map es c =>
    obtain ⟨l, h1, h2⟩ := e
    exact ⟨l, h1, keepEs_ok hν k h2⟩

theorem isNone_iff {b : B} : isNone b = true ↔ b = .none := by cases b <;> simp [isNone]

/-- The same, or a row whose cells are the same. -/
def EqvB (b1 b2 : B) : Prop := b2 = b1 ∨ ∃ k t1 t2 e z o, b1 = .row k t1 e z o ∧ b2 = .row k t2 e z o ∧ ∀ i, i < k → t2.get i = t1.get i

theorem EqvB.ob {b1 b2 : B} (h : EqvB b1 b2) {ν : Nu} {sl : Nat} {ob : Option Obj} (k : ObR ν b1 sl ob) : ObR ν b2 sl ob := by
  rcases h with rfl | ⟨q, t1, t2, e, z, o, rfl, rfl, h⟩
  · exact k
  · obtain ⟨cur, h1, h2, h3, h4⟩ := k
    exact ⟨cur, h1, ⟨h2.1, fun i hi => by rw [h i hi]; exact h2.2 i hi⟩, h3, h4⟩

theorem EqvB.live {b1 b2 : B} (h : EqvB b1 b2) : live b2 = live b1 := by
  rcases h with rfl | ⟨q, t1, t2, e, z, o, rfl, rfl, h⟩ <;> rfl

theorem EqvB.isNone {b1 b2 : B} (h : EqvB b1 b2) : b2 = B.none ↔ b1 = B.none := by
  rcases h with rfl | ⟨q, t1, t2, e, z, o, rfl, rfl, h⟩
  · exact Iff.rfl
  · simp

/-- What a sweep has to keep. -/
def Swept (h h1 h2 : H) : Prop := ∀ n, (h2.get n = .none ∧ h.get n = .none) ∨ (EqvB (h1.get n) (h2.get n) ∧ keepB h2 (h2.get n) = true)

theorem sweep_ok {g : FuncId} {args : List V} {h h1 h2 : H} {v : V} (s : SoundCall P B0 W0 g args h v h1) (hs : Swept h h1 h2) (hv : keepV h2 v = true) : SoundCall P B0 W0 g args h v h2 := by
  intro ν w vs ga ha
  have key : ∀ u w', (∃ ν', ν.le ν' ∧ Ga B0 W0 ν' h1 w' ∧ cvV ν' v = some u) → ∃ ν', ν.le ν' ∧ Ga B0 W0 ν' h2 w' ∧ cvV ν' v = some u := fun u w' ⟨ν1, l1, g1, c1⟩ => by
    let ν2 : Nu := fun n => match h2.get n with
      | .none => none
      | _ => ν1 n
    have e2 : ∀ n, h2.get n ≠ .none → ν2 n = ν1 n := fun n hn => by
      show (match h2.get n with | .none => none | _ => ν1 n) = ν1 n
      cases hg : h2.get n <;> first | rfl | exact absurd hg hn
    have e3 : ∀ n, h2.get n = .none → ν2 n = none := fun n hn => by
      show (match h2.get n with | .none => none | _ => ν1 n) = none
      rw [hn]
    have hν : ∀ n y, isNone (h2.get n) = false → ν1 n = some y → ν2 n = some y := fun n y hn hy => by
      rw [e2 n (fun e => by rw [e] at hn; cases hn)]; exact hy
    have hle : ν.le ν2 := fun n y hn => by
      have h0 : h.get n ≠ .none := fun e => by rw [ga.no n e] at hn; cases hn
      rcases hs n with ⟨_, k⟩ | ⟨k, _⟩
      · exact absurd k h0
      · have h3 : h1.get n ≠ .none := fun e => by
          have := g1.no n e
          rw [l1 n y hn] at this
          cases this
        rw [e2 n (fun e => h3 (k.isNone.1 e))]
        exact l1 n y hn
    refine ⟨ν2, hle, ⟨g1.below, g1.base, e3, fun n hn => ?_, fun n hn => ?_, fun n m y y' hn hm hy hy' e => ?_⟩, keepV_ok hν hv c1⟩
    · rcases hs n with ⟨k, _⟩ | ⟨k, _⟩
      · exact absurd k hn
      · exact g1.lim n (fun e => hn (k.isNone.2 e))
    · rcases hs n with ⟨k, _⟩ | ⟨k, kb⟩
      · rw [k] at hn; cases hn
      · have hn1 : live (h1.get n) = true := by rw [← k.live]; exact hn
        obtain ⟨y, j1, j2, j3⟩ := g1.obj n hn1
        refine ⟨y, ?_, j2, keepB_ok hν kb (k.ob j3)⟩
        rw [e2 n (fun e => by rw [e] at hn; cases hn)]
        exact j1
    · have a1 : ν1 n = some y := by rw [← e2 n (fun e => by rw [e] at hn; cases hn)]; exact hy
      have a2 : ν1 m = some y' := by rw [← e2 m (fun e => by rw [e] at hm; cases hm)]; exact hy'
      have b1 : live (h1.get n) = true := by
        rcases hs n with ⟨k, _⟩ | ⟨k, _⟩
        · rw [k] at hn; cases hn
        · rw [← k.live]; exact hn
      have b2 : live (h1.get m) = true := by
        rcases hs m with ⟨k, _⟩ | ⟨k, _⟩
        · rw [k] at hm; cases hm
        · rw [← k.live]; exact hm
      exact g1.inj n m y y' b1 b2 a1 a2 e
  rcases s ν w vs ga ha with ⟨u, w', h3, h4⟩ | ⟨h3, h4⟩
  · exact .inl ⟨u, w', h3, key u w' h4⟩
  · exact .inr ⟨h3, h4.mono fun e w' ⟨u, he, hh⟩ => ⟨u, he, key u w' hh⟩⟩

end
end Ai
end Go.Proofs.YtjmhkcfdmcjilaaGreat
