/-
  A long run in parts: a call that was reckoned once, in a memory that is written out, stands in for itself.
-/
import Derived.Test.YtjmhkcfdmcjilaaGreatAiM
import Derived.Test.YtjmhkcfdmcjilaaGreatAiP
/- What the reckoner says of code and of calls is so: 'run_ok'. -/
namespace Go.Proofs.YtjmhkcfdmcjilaaGreat
namespace Ai
open Go.RowKit
section
variable {P : Program} {B0 : Nat} {W0 : World}

def exOf : E → Exit
  | .normal => .normal
  | .ret => .ret
  | .exit id => .exit id

def PostR (B0 : Nat) (W0 : World) (ν : Nu) (res : Res) (Q : Exit → Act → World → Prop) : Prop :=
  ∀ ν' a' w', ν.le ν' → St B0 W0 ν' res.f res.h a' w' → Q (exOf res.e) a' w'

def SoundCode (P : Program) (B0 : Nat) (W0 : World) (c : Code) (f : F) (h : H) (res : Res) : Prop :=
  ∀ ν a w, St B0 W0 ν f h a w → ∀ Q, PostR B0 W0 ν res Q → c.wp P Q a w

def SoundLoop (P : Program) (B0 : Nat) (W0 : World) (k : Nat) (c : Code) (f : F) (h : H) (res : Res) : Prop :=
  ∀ ν a w, St B0 W0 ν f h a w → ∀ Q, PostR B0 W0 ν res Q → Code.rounds P c Q k a w

structure Good (P : Program) (B0 : Nat) (W0 : World) (k : Nat) (r : Task → F → H → Option Res) : Prop where
  code : ∀ c f h res, r (.code c) f h = some res → SoundCode P B0 W0 c f h res
  loop : ∀ c f h res, r (.loop c) f h = some res → SoundLoop P B0 W0 k c f h res
  call : ∀ g args f h res, r (.call g args) f h = some res → SoundCall P B0 W0 g args h res.v res.h

theorem ofArgs_get : ∀ (l : List V) (i : Nat) (t : Tr V), i + l.length ≤ top → ∀ j, (Tr.ofArgs i l t).get j = if i ≤ j then (match l[j - i]? with | some x => x | none => t.get j) else t.get j
  | [], i, t, _, j => by simp [Tr.ofArgs]
  | x :: l, i, t, h, j => by
    simp only [List.length_cons] at h
    simp only [Tr.ofArgs, fV_eq, Tr.setK_eq]
    rw [ofArgs_get l (i + 1) _ (by omega) j, Tr.get_set16 t i x (by omega)]
    by_cases h1 : i + 1 ≤ j
    · have h2 : i ≤ j := by omega
      have h3 : j - i = (j - (i + 1)) + 1 := by omega
      have h4 : ¬ j = i := by omega
      simp only [h1, h2, if_true, h3, List.getElem?_cons_succ, h4, if_false]
    · by_cases h2 : i ≤ j
      · have h3 : j = i := by omega
        subst h3
        rw [if_neg h1, if_pos h2]
        simp
      · have h4 : ¬ j = i := by omega
        simp [h1, h2, h4]

theorem enter_fr {ν : Nu} {args : List V} {vs : Array Value} (ha : ArgsR ν args vs) {n : Nat} (hn : args.length ≤ n) (ht : args.length + n < top) :
    FR ν ⟨n, Tr.ofArgs 0 args (.leaf undefV)⟩ (vs ++ Array.replicate (n - vs.size) undef) := by
  have hlen : vs.size = args.length := by
    have := congrArg List.length ha
    simpa using this.symm
  refine ⟨by simp; omega, fun t => ?_⟩
  show cvV ν ((Tr.ofArgs 0 args (.leaf undefV)).get t) = _
  rw [ofArgs_get args 0 _ (by omega), if_pos (Nat.zero_le t), Nat.sub_zero, Tr.get_leaf]
  by_cases h1 : t < args.length
  · rw [List.getElem?_eq_getElem h1]
    have h2 : (args.map (cvV ν))[t]? = (vs.toList.map some)[t]? := by rw [ha]
    rw [List.getElem?_map, List.getElem?_map, List.getElem?_eq_getElem h1, Array.getElem?_toList, Array.getElem?_eq_getElem (by omega)] at h2
    simp only [Option.map_some, Option.some.injEq] at h2
    rw [h2]
    have h3 : t < vs.size := by omega
    simp [Array.getElem?_append_left h3, h3]
  · rw [List.getElem?_eq_none (by omega)]
    simp only [undef_cv]
    have h3 : vs.size ≤ t := by omega
    simp only [Array.getD_eq_getD_getElem?]
    rw [Array.getElem?_append_right h3, Array.getElem?_replicate]
    split <;> rfl

/-- One result, as the machine reads it. -/
def readR (a : Act) : ResultVar → Sem Value
  | .tmp t => pure (a.tmps.getD t undef)
  | .cell x t => do loadVar t (← asAddr (a.tmps.getD x undef))

theorem result_ok {ν : Nu} {f : F} {h : H} {a : Act} {w : World} (s : St B0 W0 ν f h a w) {r : ResultVar} {v : V} (e : aResult P f h r = some v) :
    ∃ u, cvV ν v = some u ∧ (readR a r).run P w = .ok u w := by
  cases r with
  | tmp t =>
    simp only [aResult, Option.some.injEq] at e
    subst e
    exact ⟨_, s.fr.2 t, rfl⟩
  | cell x t =>
    simp only [aResult] at e
    have hx := s.fr.2 x
    obtain ⟨u, k1, k2⟩ := load_ok (P := P) s.ga e hx
    refine ⟨u, k1, ?_⟩
    unfold aLoad at e
    split at e
    · rename_i n off hp
      rw [hp] at hx
      obtain ⟨y, hy, hv⟩ := ptr_of hx
      rw [hv] at k2
      simpa [readR, hv, Instr.loadAt, Instr.sureAddr, asAddr] using k2
    · cases e

theorem results_ok {ν : Nu} {f : F} {h : H} {a : Act} {w : World} (s : St B0 W0 ν f h a w) : ∀ {l : List ResultVar} {xs : List W}, aResults P f h l = some xs →
    ∃ vs, cvWs ν xs = some vs ∧ (l.mapM (m := Sem) (readR a)).run P w = .ok vs w
  | [], xs, e => by
    simp only [aResults, Option.some.injEq] at e
    subst e
    exact ⟨[], rfl, by simp⟩
  | r :: l, xs, e => by
    simp only [aResults] at e
    split at e
    · rename_i x hx
      cases h2 : aResults P f h l with
      | none => simp [h2] at e
      | some ys =>
        simp only [h2, Option.some.injEq] at e
        subst e
        obtain ⟨u, k1, k2⟩ := result_ok (P := P) s hx
        obtain ⟨us, k3, k4⟩ := results_ok s h2
        have k1' : cvW ν x = some u := k1
        refine ⟨u :: us, by simp only [cvWs, k1', k3], ?_⟩
        simp only [List.mapM_cons, Sem.run_bind, k2, Result.andThen_ok, k4, Sem.run_pure]
    · cases e

theorem cvWs_length {ν : Nu} : ∀ {l : List W} {vs : List Value}, cvWs ν l = some vs → vs.length = l.length
  | [], vs, e => by simp only [cvWs, Option.some.injEq] at e; subst e; rfl
  | x :: l, vs, e => by
    simp only [cvWs] at e
    split at e
    · rename_i v us _ h2
      simp only [Option.some.injEq] at e
      subst e
      simp [cvWs_length h2]
    · cases e

theorem out_ok {ν : Nu} {f : F} {h : H} {a : Act} {w : World} (s : St B0 W0 ν f h a w) {fn : Func} {v : V} (e : aOut P f h fn.results.toList = some v) :
    ∃ u, cvV ν v = some u ∧ (results fn a.tmps).run P w = .ok u w := by
  unfold aOut at e
  have key : ∀ xs, aResults P f h fn.results.toList = some xs → ∃ vs : List Value, cvWs ν xs = some vs ∧ (results fn a.tmps).run P w = .ok (if h : vs.toArray.size = 1 then vs.toArray[0] else .tuple vs.toArray) w := fun xs hx => by
    obtain ⟨vs, k1, k2⟩ := results_ok (P := P) s hx
    refine ⟨vs, k1, ?_⟩
    have hr : results fn a.tmps = (do let vs ← fn.results.mapM (m := Sem) (readR a); pure (if h : vs.size = 1 then vs[0] else .tuple vs)) := by
      unfold results
      congr 2
    rw [hr, Array.mapM_eq_mapM_toList]
    simp only [Sem.run_bind, Sem.run_map, k2, Result.andThen_ok, Sem.run_pure]
  split at e
  · rename_i x hx
    simp only [Option.some.injEq] at e
    subst e
    obtain ⟨vs, k1, k2⟩ := key _ hx
    have hl := cvWs_length k1
    match vs, hl with
    | [u], _ =>
      simp only [cvWs] at k1
      cases hu : cvW ν x with
      | none => simp [hu] at k1
      | some u' =>
        simp only [hu, Option.some.injEq, List.cons.injEq, and_true] at k1
        subst k1
        exact ⟨u', hu, by simpa using k2⟩
  · rename_i l hne hx
    simp only [Option.some.injEq] at e
    subst e
    obtain ⟨vs, k1, k2⟩ := key _ hx
    have hl := cvWs_length k1
    refine ⟨.tuple vs.toArray, by simp only [cvV, k1], ?_⟩
    have h1 : ¬ vs.toArray.size = 1 := by
      rw [List.size_toArray, hl]
      intro h1
      match l, h1 with
      | [x], _ => exact hne x rfl
    rw [dif_neg h1] at k2
    exact k2
  · cases e

/-- No function is the one that the machine carries out itself. -/
def Named (P : Program) : Prop := ∀ (g : Nat) (fn : Func), P.funcs[g]? = some fn → (fn.name == "runtime.NumGoroutine") = false

/-- What stands in is so. -/
def NatOk (P : Program) (nat : Nat') : Prop := ∀ B0 W0 g args h v h', nat g args h = some (some (v, h')) → SoundCall P B0 W0 g args h v h'

theorem step_ok {nat : Nat'} (hm : P.follows .mixedOrders = true) (hname : Named P) (hnat : NatOk P nat) {k : Nat} {ih : Task → F → H → Option Res} (G : Good P B0 W0 k ih) :
    Good P B0 W0 (k + 1) (step P nat ih) where
  call := fun g args f h res e => by
    simp only [step] at e
    split at e
    · rename_i v h' hn
      simp only [Option.some.injEq] at e
      subst e
      exact hnat B0 W0 g args h v h' hn
    · cases e
    · split at e
      · rename_i fn hf
        split at e
        · rename_i c hb
          cases hc : (Nat.blt (args.length + fn.ntmps) top && Nat.ble args.length fn.ntmps) with
          | false => simp only [hc, cond_false, reduceCtorEq] at e
          | true =>
            simp only [hc, cond_true] at e
            simp only [Bool.and_eq_true, Nat.blt, ble_dec, decide_eq_true_eq] at hc
            intro ν w vs ga ha
            refine .inr ⟨?_, calls_of_wp hf hb ?_⟩
            · have h1 := hname g fn hf
              simp [callFunc, hf, hb]
              simpa using h1
            · have hst : St B0 W0 ν ⟨fn.ntmps, Tr.ofArgs 0 args (.leaf undefV)⟩ h { tmps := vs ++ Array.replicate (fn.ntmps - vs.size) undef, defers := [] } w :=
                ⟨ga, enter_fr ha hc.2 (by omega), rfl⟩
              have fin : ∀ r, ih (.code c) ⟨fn.ntmps, Tr.ofArgs 0 args (.leaf undefV)⟩ h = some r → (∀ id, r.e ≠ .exit id) → (aOut P r.f r.h fn.results.toList).map (fun v => (⟨.normal, f, r.h, v⟩ : Res)) = some res →
                  c.wp P (bodyPost P fn fun e w' => ∃ u, e = .returned u ∧ ∃ ν', ν.le ν' ∧ Ga B0 W0 ν' res.h w' ∧ cvV ν' res.v = some u) { tmps := vs ++ Array.replicate (fn.ntmps - vs.size) undef, defers := [] } w := fun r hr hne ho => by
                obtain ⟨v, h1, h2⟩ := map_some ho
                subst h2
                refine G.code c _ h r hr ν _ w hst _ fun ν' a' w' l1 s1 => ?_
                obtain ⟨u, k1, k2⟩ := out_ok (P := P) s1 h1
                have hpost : a'.defers = [] ∧ ∃ v', (results fn a'.tmps).run P w' = .ok v' w' ∧ ∃ u, (.returned v' : Ending) = .returned u ∧ ∃ ν2, ν.le ν2 ∧ Ga B0 W0 ν2 r.h w' ∧ cvV ν2 v = some u :=
                  ⟨s1.df, u, k2, u, rfl, ν', l1, s1.ga, k1⟩
                cases he : r.e with
                | normal => exact hpost
                | ret => exact hpost
                | exit id => exact absurd he (hne id)
              split at e
              · cases e
              · rename_i ee ff hh vv hne hr
                exact fin _ hr (fun id he => hne id he) e
              · cases e
        · cases e
      · cases e
  loop := fun c f h res e => by
    intro ν a w s Q hQ
    rw [rounds_succ]
    simp only [step] at e
    split at e
    · rename_i f1 h1 v1 hr
      refine G.code c f h _ hr ν a w s _ fun ν' a' w' l1 s1 => ?_
      exact G.loop c f1 h1 res e ν' a' w' s1 Q fun ν2 a2 w2 l2 s2 => hQ ν2 a2 w2 (Nu.le_trans l1 l2) s2
    · rename_i r hne
      refine G.code c f h res e ν a w s _ fun ν' a' w' l1 s1 => ?_
      have := hQ ν' a' w' l1 s1
      cases he : res.e with
      | normal =>
        exfalso
        obtain ⟨ee, ff, hh, vv⟩ := res
        simp only at he
        subst he
        exact hne ff hh vv e
      | ret => rw [he] at this; exact this
      | exit id => rw [he] at this; exact this
  code := fun c f h res e => by
    intro ν a w s Q hQ
    cases c with
    | skip =>
      simp only [step, Option.some.injEq] at e
      subst e
      exact wp_skip (hQ ν a w (Nu.le_refl ν) s)
    | ret =>
      simp only [step, Option.some.injEq] at e
      subst e
      exact wp_ret (hQ ν a w (Nu.le_refl ν) s)
    | exit id =>
      simp only [step, Option.some.injEq] at e
      subst e
      exact wp_exit (hQ ν a w (Nu.le_refl ν) s)
    | seq x y =>
      simp only [step] at e
      refine wp_seq ?_
      split at e
      · rename_i f1 h1 v1 hr
        refine G.code x f h _ hr ν a w s _ fun ν' a' w' l1 s1 => ?_
        exact G.code y f1 h1 res e ν' a' w' s1 Q fun ν2 a2 w2 l2 s2 => hQ ν2 a2 w2 (Nu.le_trans l1 l2) s2
      · rename_i r hne
        refine G.code x f h res e ν a w s _ fun ν' a' w' l1 s1 => ?_
        have := hQ ν' a' w' l1 s1
        cases he : res.e with
        | normal =>
          exfalso
          obtain ⟨ee, ff, hh, vv⟩ := res
          simp only at he
          subst he
          exact hne ff hh vv e
        | ret => rw [he] at this; exact this
        | exit id => rw [he] at this; exact this
    | cond x y z =>
      simp only [step] at e
      split at e
      · rename_i t ht
        have hc := bool_of (ev_ok s.fr ht)
        refine wp_cond hc ?_
        have := G.code _ f h res e ν a w s Q hQ
        cases t <;> exact this
      · cases e
    | block id x =>
      simp only [step] at e
      refine wp_block ?_
      split at e
      · rename_i id' f1 h1 v1 hr
        refine G.code x f h _ hr ν a w s _ fun ν' a' w' l1 s1 => ?_
        by_cases hid : id' = id
        · simp only [hid, beq_dec, decide_true, cond_true, Option.some.injEq] at e
          subst e
          have := hQ ν' a' w' l1 s1
          simp only [exOf, Exit.inBlock, hid, if_true]
          exact this
        · simp only [hid, beq_dec, decide_false, cond_false, Option.some.injEq] at e
          subst e
          have := hQ ν' a' w' l1 s1
          simp only [exOf, Exit.inBlock, hid, if_false]
          exact this
      · rename_i r hne
        refine G.code x f h res e ν a w s _ fun ν' a' w' l1 s1 => ?_
        have := hQ ν' a' w' l1 s1
        cases he : res.e with
        | normal => rw [he] at this; exact this
        | ret => rw [he] at this; exact this
        | exit id' =>
          exfalso
          obtain ⟨ee, ff, hh, vv⟩ := res
          simp only at he
          subst he
          exact hne id' ff hh vv e
    | loop x =>
      simp only [step] at e
      exact wp_loop_rounds k (G.loop x f h res e ν a w s Q hQ)
    | region id ops draw =>
      cases draw with
      | false =>
        simp only [step] at e
        obtain ⟨r, h1, h2⟩ := map_some e
        subst h2
        exact wp_region_list (ops_ok G.call ops ops.toList s h1 hQ)
      | true =>
        simp only [step] at e
        split at e
        · rename_i steps hp
          cases hs : Region.noSelect ops with
          | false => simp only [hs, cond_false, reduceCtorEq] at e
          | true =>
            simp only [hs, cond_true] at e
            obtain ⟨r, h1, h2⟩ := map_some e
            subst h2
            exact drawn_region hm G.call hs hp s h1 hQ
        · cases e
    | scope x => simp [step] at e
    | label l => simp [step] at e
    | goto l => simp [step] at e
    | refuse y => simp [step] at e
    | rangeFunc x y z u => simp [step] at e

theorem run_ok {nat : Nat'} (hm : P.follows .mixedOrders = true) (hname : Named P) (hnat : NatOk P nat) : ∀ n, Good P B0 W0 n (run P nat n)
  | 0 => ⟨fun _ _ _ _ e => by simp [run] at e, fun _ _ _ _ e => by simp [run] at e, fun _ _ _ _ _ e => by simp [run] at e⟩
  | n + 1 => step_ok hm hname hnat (run_ok hm hname hnat n)

/-- A closed call: in whatever world it is made, it gives what the reckoner gives, and below the world's first new block nothing turns. -/
theorem closed_call {nat : Nat'} (hm : P.follows .mixedOrders = true) (hname : Named P) (hnat : NatOk P nat) {n : Nat} {g : FuncId} {f : F} {res : Res}
    (e : run P nat n (.call g []) f ⟨.leaf .none, 0⟩ = some res) {u : Value} (hu : absV u = some res.v) (hnone : nat g [] ⟨.leaf .none, 0⟩ = none) (w : World) :
    Calls P g #[] w (fun e w' => e = .returned u ∧ Below w.heap.size w w') := by
  have ga : Ga w.heap.size w (fun _ => none) ⟨.leaf .none, 0⟩ w := by
    refine ⟨Below.refl _ _, Nat.le_refl _, fun _ _ => rfl, fun m hm => ?_, fun m hm => ?_, fun m _ y _ hm _ hy => ?_⟩
    · exact absurd (Tr.get_leaf _ _) hm
    · have : live (.none : B) = true := by rw [← Tr.get_leaf (B.none) m]; exact hm
      cases this
    · cases hy
  rcases (run_ok (B0 := w.heap.size) (W0 := w) hm hname hnat n).call g [] f _ res e _ w #[] ga rfl with ⟨u', w', h1, _⟩ | ⟨_, h2⟩
  · exfalso
    cases n with
    | zero => simp [run] at e
    | succ n =>
      have e' : step P nat (run P nat n) (.call g []) f ⟨.leaf .none, 0⟩ = some res := e
      simp only [step, hnone] at e'
      split at e'
      · rename_i fn hf
        split at e'
        · rename_i c hb
          have hnm := hname g fn hf
          simp [callFunc, hf, hb] at h1
          split at h1 <;> simp at h1
        · cases e'
      · cases e'
  · refine h2.mono fun e w' ⟨u', he, ν', _, k2, k3⟩ => ⟨?_, k2.below⟩
    rw [absV_cv hu ν'] at k3
    rw [he, ← Option.some.inj k3]

end
end Ai
end Go.Proofs.YtjmhkcfdmcjilaaGreat
/- What the fast reckoner says is so. What a call leaves may be swept: names that nothing holds any more are dropped. A call that was reckoned once may stand in. -/
namespace Go.Proofs.YtjmhkcfdmcjilaaGreat
namespace Ai
open Go.RowKit
section
variable {P : Program} {B0 : Nat} {W0 : World}

theorem stepK_ok {nat : Nat'} (hm : P.follows .mixedOrders = true) (hname : Named P) (hnat : NatOk P nat) {k : Nat} {ih : Task → F → H → Option Res} (G : Good P B0 W0 k ih) :
    Good P B0 W0 (k + 1) (stepK P nat ih) := by
  have G' := step_ok hm hname hnat G
  refine ⟨fun c f h res e => ?_, fun c f h res e => ?_, fun g args f h res e => ?_⟩
  · have e' : (codeK P c).out ih f h = some res := e
    rw [codeK_eq P nat] at e'
    exact G'.code c f h res e'
  · intro ν a w s Q hQ
    rw [rounds_succ]
    have e' : (match (codeK P c).out ih f h with
      | some ⟨.normal, f', h', _⟩ => ih (.loop c) f' h'
      | r => r) = some res := e
    rw [codeK_eq P nat] at e'
    split at e'
    · rename_i f1 h1 v1 hr
      refine G'.code c f h _ hr ν a w s _ fun ν' a' w' l1 s1 => ?_
      exact G.loop c f1 h1 res e' ν' a' w' s1 Q fun ν2 a2 w2 l2 s2 => hQ ν2 a2 w2 (Nu.le_trans l1 l2) s2
    · rename_i r hne
      refine G'.code c f h res e' ν a w s _ fun ν' a' w' l1 s1 => ?_
      have := hQ ν' a' w' l1 s1
      cases he : res.e with
      | normal =>
        exfalso
        obtain ⟨ee, ff, hh, vv⟩ := res
        simp only at he
        subst he
        exact hne ff hh vv e'
      | ret => rw [he] at this; exact this
      | exit id => rw [he] at this; exact this
  · refine G'.call g args f h res ?_
    have e' : (match nat g args h with
      | some (some (v, h')) => fV v fun v => some (⟨.normal, f, h', v⟩ : Res)
      | some none => none
      | none => (enterK P g).out ih args f h) = some res := e
    cases hn : nat g args h with
    | none => rw [hn] at e'; rw [← enterK_eq P nat g ih args f h hn]; exact e'
    | some q =>
      rw [hn] at e'
      cases q with
      | none => simp at e'
      | some r =>
        obtain ⟨v, h'⟩ := r
        simp only [fV_eq] at e'
        simp only [step, hn]
        exact e'

theorem runK_ok {nat : Nat'} (hm : P.follows .mixedOrders = true) (hname : Named P) (hnat : NatOk P nat) : ∀ n, Good P B0 W0 n (runK P nat n)
  | 0 => ⟨fun _ _ _ _ e => by simp [runK] at e, fun _ _ _ _ e => by simp [runK] at e, fun _ _ _ _ _ e => by simp [runK] at e⟩
  | n + 1 => stepK_ok hm hname hnat (runK_ok hm hname hnat n)

/-! ### Sweeping -/

def keepC (h : H) : C → Bool
  | .p n _ => !isNone (h.get n)
  | .i _ _ => true

def keepCs (h : H) : List C → Bool
  | [] => true
  | c :: l => keepC h c && keepCs h l

/-- All its names are names. -/
def keepS (h : H) : S → Bool
  | .p n _ | .sl n _ _ _ _ | .se n _ _ | .m n => !isNone (h.get n)
  | .f _ cs => keepCs h cs
  | .fc _ c => keepC h c
  | _ => true

def keepL (h : H) : List S → Bool
  | [] => true
  | x :: l => keepS h x && keepL h l

def keepW (h : H) : W → Bool
  | .s x => keepS h x
  | .a l => keepL h l

def keepWs (h : H) : List W → Bool
  | [] => true
  | x :: l => keepW h x && keepWs h l

def keepV (h : H) : V → Bool
  | .w x => keepW h x
  | .t l => keepWs h l

def keepEs (h : H) : List (W × W × Nat) → Bool
  | [] => true
  | e :: l => keepW h e.1 && keepW h e.2.1 && keepEs h l

/-- Everything that a tree says. -/
def keepT (h : H) : Tr S → Bool
  | .leaf a => keepS h a
  | .node a l r => keepS h a && keepT h l && keepT h r

def keepB (h : H) : B → Bool
  | .row _ t _ _ _ => keepT h t
  | .map es _ => keepEs h es
  | _ => true

theorem keepC_ok {h : H} {ν ν' : Nu} (hν : ∀ n y, isNone (h.get n) = false → ν n = some y → ν' n = some y) {c : C} {v : Value} (k : keepC h c = true) (e : cvC ν c = some v) : cvC ν' c = some v := by
  cases c with
  | i q x => exact e
  | p n off =>
    simp only [keepC, Bool.not_eq_true'] at k
    simp only [cvC] at e ⊢
    cases hn : ν n with
    | none => simp [hn] at e
    | some y => rw [hν n y k hn]; simpa [hn] using e

theorem keepCs_ok {h : H} {ν ν' : Nu} (hν : ∀ n y, isNone (h.get n) = false → ν n = some y → ν' n = some y) : ∀ {cs : List C} {vs : List Value}, keepCs h cs = true → cvCs ν cs = some vs → cvCs ν' cs = some vs
  | [], _, _, e => e
  | c :: l, vs, k, e => by
    simp only [keepCs, Bool.and_eq_true] at k
    simp only [cvCs] at e ⊢
    cases h1 : cvC ν c with
    | none => simp [h1] at e
    | some v =>
      cases h2 : cvCs ν l with
      | none => simp [h1, h2] at e
      | some ws => rw [keepC_ok hν k.1 h1, keepCs_ok hν k.2 h2]; simpa [h1, h2] using e

theorem keepS_ok {h : H} {ν ν' : Nu} (hν : ∀ n y, isNone (h.get n) = false → ν n = some y → ν' n = some y) {x : S} {v : Value} (k : keepS h x = true) (e : cvS ν x = some v) : cvS ν' x = some v := by
  cases x with
  | p n off =>
    simp only [keepS, Bool.not_eq_true'] at k
    simp only [cvS] at e ⊢
    cases hn : ν n with
    | none => simp [hn] at e
    | some y => rw [hν n y k hn]; simpa [hn] using e
  | sl n off len c o =>
    simp only [keepS, Bool.not_eq_true'] at k
    simp only [cvS] at e ⊢
    cases hn : ν n with
    | none => simp [hn] at e
    | some y => rw [hν n y k hn]; simpa [hn] using e
  | se n off d =>
    simp only [keepS, Bool.not_eq_true'] at k
    simp only [cvS] at e ⊢
    cases hn : ν n with
    | none => simp [hn] at e
    | some y => rw [hν n y k hn]; simpa [hn] using e
  | m n =>
    simp only [keepS, Bool.not_eq_true'] at k
    simp only [cvS] at e ⊢
    cases hn : ν n with
    | none => simp [hn] at e
    | some y => rw [hν n y k hn]; simpa [hn] using e
  | f g cs =>
    simp only [keepS] at k
    simp only [cvS] at e ⊢
    cases hn : cvCs ν cs with
    | none => simp [hn] at e
    | some y => rw [keepCs_ok hν k hn]; simpa [hn] using e
  | fc t c =>
    simp only [keepS] at k
    simp only [cvS] at e ⊢
    cases hn : cvC ν c with
    | none => simp [hn] at e
    | some y => rw [keepC_ok hν k hn]; simpa [hn] using e
  | _ => exact e

theorem keepL_ok {h : H} {ν ν' : Nu} (hν : ∀ n y, isNone (h.get n) = false → ν n = some y → ν' n = some y) : ∀ {l : List S} {vs : List Value}, keepL h l = true → cvL ν l = some vs → cvL ν' l = some vs
  | [], _, _, e => e
  | x :: l, vs, k, e => by
    simp only [keepL, Bool.and_eq_true] at k
    obtain ⟨v, ws, h1, h2, rfl⟩ := cvL_cons e
    exact cvL_mk (keepS_ok hν k.1 h1) (keepL_ok hν k.2 h2)

theorem keepW_ok {h : H} {ν ν' : Nu} (hν : ∀ n y, isNone (h.get n) = false → ν n = some y → ν' n = some y) {x : W} {v : Value} (k : keepW h x = true) (e : cvW ν x = some v) : cvW ν' x = some v := by
  cases x with
  | s x => exact keepS_ok hν k e
  | a l =>
    simp only [cvW] at e ⊢
    cases h1 : cvL ν l with
    | none => simp [h1] at e
    | some vs => rw [keepL_ok hν k h1]; simpa [h1] using e

theorem keepWs_ok {h : H} {ν ν' : Nu} (hν : ∀ n y, isNone (h.get n) = false → ν n = some y → ν' n = some y) : ∀ {l : List W} {vs : List Value}, keepWs h l = true → cvWs ν l = some vs → cvWs ν' l = some vs
  | [], _, _, e => e
  | x :: l, vs, k, e => by
    simp only [keepWs, Bool.and_eq_true] at k
    simp only [cvWs] at e ⊢
    cases h1 : cvW ν x with
    | none => simp [h1] at e
    | some v =>
      cases h2 : cvWs ν l with
      | none => simp [h1, h2] at e
      | some ws => rw [keepW_ok hν k.1 h1, keepWs_ok hν k.2 h2]; simpa [h1, h2] using e

theorem keepV_ok {h : H} {ν ν' : Nu} (hν : ∀ n y, isNone (h.get n) = false → ν n = some y → ν' n = some y) {x : V} {v : Value} (k : keepV h x = true) (e : cvV ν x = some v) : cvV ν' x = some v := by
  cases x with
  | w x => exact keepW_ok hν k e
  | t l =>
    simp only [cvV] at e ⊢
    cases h1 : cvWs ν l with
    | none => simp [h1] at e
    | some vs => rw [keepWs_ok hν k h1]; simpa [h1] using e

theorem keepEs_ok {h : H} {ν ν' : Nu} (hν : ∀ n y, isNone (h.get n) = false → ν n = some y → ν' n = some y) : ∀ {l : List (W × W × Nat)} {xs : List MapEntry}, keepEs h l = true → cvEs ν l = some xs → cvEs ν' l = some xs
  | [], _, _, e => e
  | x :: l, vs, k, e => by
    simp only [keepEs, Bool.and_eq_true] at k
    obtain ⟨y, ys, h1, h2, rfl⟩ := cvEs_cons e
    obtain ⟨kv, vv, h3, h4, rfl⟩ := cvE_of h1
    exact cvEs_mk (by simp [cvE, keepW_ok hν k.1.1 h3, keepW_ok hν k.1.2 h4]) (keepEs_ok hν k.2 h2)

theorem keepT_get {h : H} : ∀ {t : Tr S}, keepT h t = true → ∀ i, keepS h (t.get i) = true
  | .leaf a, k, i => by rw [Tr.get_leaf]; exact k
  | .node a l r, k, 0 => by
    simp only [keepT, Bool.and_eq_true] at k
    exact k.1.1
  | .node a l r, k, i + 1 => by
    simp only [keepT, Bool.and_eq_true] at k
    rw [Tr.get_succ]
    simp only [Tr.left_node, Tr.right_node]
    cases Nat.beq (i % 2) 0
    · exact keepT_get k.2 _
    · exact keepT_get k.1.2 _

theorem keepB_ok {h : H} {ν ν' : Nu} (hν : ∀ n y, isNone (h.get n) = false → ν n = some y → ν' n = some y) {b : B} {sl : Nat} {ob : Option Obj} (k : keepB h b = true) (e : ObR ν b sl ob) : ObR ν' b sl ob := by
  cases b with
  | none => exact e
  | dead => exact e
  | row q t el z o =>
    obtain ⟨cur, h1, h2, h3, h4⟩ := e
    refine ⟨cur, h1, ⟨h2.1, fun i hi => ?_⟩, h3, h4⟩
    rcases h2.2 i hi with h5 | ⟨v, h5, h6⟩
    · exact .inl h5
    · exact .inr ⟨v, h5, keepS_ok hν (keepT_get k i) h6⟩
  | map es c =>
    obtain ⟨l, h1, h2⟩ := e
    exact ⟨l, h1, keepEs_ok hν k h2⟩

theorem isNone_iff {b : B} : isNone b = true ↔ b = .none := by cases b <;> simp [isNone]

/-- The same, or a row whose cells are the same. -/
def EqvB (b1 b2 : B) : Prop := b2 = b1 ∨ ∃ k t1 t2 e z o, b1 = .row k t1 e z o ∧ b2 = .row k t2 e z o ∧ ∀ i, i < k → t2.get i = t1.get i

theorem EqvB.ob {b1 b2 : B} (h : EqvB b1 b2) {ν : Nu} {sl : Nat} {ob : Option Obj} (k : ObR ν b1 sl ob) : ObR ν b2 sl ob := by
  rcases h with rfl | ⟨q, t1, t2, e, z, o, rfl, rfl, h⟩
  · exact k
  · obtain ⟨cur, h1, h2, h3, h4⟩ := k
    exact ⟨cur, h1, ⟨h2.1, fun i hi => by rw [h i hi]; exact h2.2 i hi⟩, h3, h4⟩

theorem EqvB.live {b1 b2 : B} (h : EqvB b1 b2) : live b2 = live b1 := by
  rcases h with rfl | ⟨q, t1, t2, e, z, o, rfl, rfl, h⟩ <;> rfl

theorem EqvB.isNone {b1 b2 : B} (h : EqvB b1 b2) : b2 = B.none ↔ b1 = B.none := by
  rcases h with rfl | ⟨q, t1, t2, e, z, o, rfl, rfl, h⟩
  · exact Iff.rfl
  · simp

/-- What a sweep has to keep. -/
def Swept (h h1 h2 : H) : Prop := ∀ n, (h2.get n = .none ∧ h.get n = .none) ∨ (EqvB (h1.get n) (h2.get n) ∧ keepB h2 (h2.get n) = true)

theorem sweep_ok {g : FuncId} {args : List V} {h h1 h2 : H} {v : V} (s : SoundCall P B0 W0 g args h v h1) (hs : Swept h h1 h2) (hv : keepV h2 v = true) : SoundCall P B0 W0 g args h v h2 := by
  intro ν w vs ga ha
  have key : ∀ u w', (∃ ν', ν.le ν' ∧ Ga B0 W0 ν' h1 w' ∧ cvV ν' v = some u) → ∃ ν', ν.le ν' ∧ Ga B0 W0 ν' h2 w' ∧ cvV ν' v = some u := fun u w' ⟨ν1, l1, g1, c1⟩ => by
    let ν2 : Nu := fun n => match h2.get n with
      | .none => none
      | _ => ν1 n
    have e2 : ∀ n, h2.get n ≠ .none → ν2 n = ν1 n := fun n hn => by
      show (match h2.get n with | .none => none | _ => ν1 n) = ν1 n
      cases hg : h2.get n <;> first | rfl | exact absurd hg hn
    have e3 : ∀ n, h2.get n = .none → ν2 n = none := fun n hn => by
      show (match h2.get n with | .none => none | _ => ν1 n) = none
      rw [hn]
    have hν : ∀ n y, isNone (h2.get n) = false → ν1 n = some y → ν2 n = some y := fun n y hn hy => by
      rw [e2 n (fun e => by rw [e] at hn; cases hn)]; exact hy
    have hle : ν.le ν2 := fun n y hn => by
      have h0 : h.get n ≠ .none := fun e => by rw [ga.no n e] at hn; cases hn
      rcases hs n with ⟨_, k⟩ | ⟨k, _⟩
      · exact absurd k h0
      · have h3 : h1.get n ≠ .none := fun e => by
          have := g1.no n e
          rw [l1 n y hn] at this
          cases this
        rw [e2 n (fun e => h3 (k.isNone.1 e))]
        exact l1 n y hn
    refine ⟨ν2, hle, ⟨g1.below, g1.base, e3, fun n hn => ?_, fun n hn => ?_, fun n m y y' hn hm hy hy' e => ?_⟩, keepV_ok hν hv c1⟩
    · rcases hs n with ⟨k, _⟩ | ⟨k, _⟩
      · exact absurd k hn
      · exact g1.lim n (fun e => hn (k.isNone.2 e))
    · rcases hs n with ⟨k, _⟩ | ⟨k, kb⟩
      · rw [k] at hn; cases hn
      · have hn1 : live (h1.get n) = true := by rw [← k.live]; exact hn
        obtain ⟨y, j1, j2, j3⟩ := g1.obj n hn1
        refine ⟨y, ?_, j2, keepB_ok hν kb (k.ob j3)⟩
        rw [e2 n (fun e => by rw [e] at hn; cases hn)]
        exact j1
    · have a1 : ν1 n = some y := by rw [← e2 n (fun e => by rw [e] at hn; cases hn)]; exact hy
      have a2 : ν1 m = some y' := by rw [← e2 m (fun e => by rw [e] at hm; cases hm)]; exact hy'
      have b1 : live (h1.get n) = true := by
        rcases hs n with ⟨k, _⟩ | ⟨k, _⟩
        · rw [k] at hn; cases hn
        · rw [← k.live]; exact hn
      have b2 : live (h1.get m) = true := by
        rcases hs m with ⟨k, _⟩ | ⟨k, _⟩
        · rw [k] at hm; cases hm
        · rw [← k.live]; exact hm
      exact g1.inj n m y y' b1 b2 a1 a2 e
  rcases s ν w vs ga ha with ⟨u, w', h3, h4⟩ | ⟨h3, h4⟩
  · exact .inl ⟨u, w', h3, key u w' h4⟩
  · exact .inr ⟨h3, h4.mono fun e w' ⟨u, he, hh⟩ => ⟨u, he, key u w' hh⟩⟩

end
end Ai
end Go.Proofs.YtjmhkcfdmcjilaaGreat
namespace Go.Proofs.YtjmhkcfdmcjilaaGreat
namespace Ai
open Go.RowKit
section
variable {P : Program} {B0 : Nat} {W0 : World}

def allNone : Tr B → Bool
  | .leaf b => isNone b
  | .node b l r => isNone b && allNone l && allNone r

/-- All of it that lies below k is 'a' (the tree's numbers are b, b + s, b + 2 s, ..). -/
def allT (k : Nat) (a : S) : Tr S → (b s : Nat) → Bool
  | .leaf c, b, _ => cond (Nat.ble k b) true (decide (c = a))
  | .node c l r, b, s => cond (Nat.ble k b) true (decide (c = a) && allT k a l (b + s) (2 * s) && allT k a r (b + 2 * s) (2 * s))

/-- Two trees that say the same below k. -/
def eqT (k : Nat) : Tr S → (b s : Nat) → Tr S → Bool
  | .leaf a, b, s, t2 => allT k a t2 b s
  | .node a l r, b, s, t2 => cond (Nat.ble k b) true (decide (t2.val = a) && eqT k l (b + s) (2 * s) t2.left && eqT k r (b + 2 * s) (2 * s) t2.right)

theorem allT_ok {k : Nat} {a : S} : ∀ {t : Tr S} {b s : Nat}, 0 < s → allT k a t b s = true → ∀ j, b + s * j < k → t.get j = a
  | .leaf c, b, s, hs, h, j, hj => by
    rw [Tr.get_leaf]
    unfold allT at h
    cases hb : Nat.ble k b with
    | true =>
      have h1 := Nat.le_of_ble_eq_true hb
      have : 0 ≤ s * j := Nat.zero_le _
      omega
    | false => rw [hb] at h; simpa using h
  | .node c l r, b, s, hs, h, j, hj => by
    unfold allT at h
    cases hb : Nat.ble k b with
    | true =>
      have h1 := Nat.le_of_ble_eq_true hb
      have : 0 ≤ s * j := Nat.zero_le _
      omega
    | false =>
      rw [hb] at h
      simp only [cond_false, Bool.and_eq_true, decide_eq_true_eq] at h
      cases j with
      | zero => rw [Tr.get_zero]; exact h.1.1
      | succ m =>
        rw [Tr.get_succ]
        simp only [Tr.left_node, Tr.right_node]
        have e1 : s * (m + 1) = s * m + s := by rw [Nat.mul_succ]
        have e2 : 2 * s * (m / 2) = s * (2 * (m / 2)) := by rw [Nat.mul_comm 2 s, Nat.mul_assoc]
        cases hm : Nat.beq (m % 2) 0 with
        | true =>
          have hm' := Nat.eq_of_beq_eq_true hm
          have e3 : 2 * (m / 2) = m := by omega
          rw [e3] at e2
          exact allT_ok (by omega) h.1.2 _ (by omega)
        | false =>
          have hm' := Nat.ne_of_beq_eq_false hm
          have e3 : 2 * (m / 2) + 1 = m := by omega
          have e4 : s * m = s * (2 * (m / 2)) + s := by rw [← Nat.mul_succ]; congr 1; omega
          exact allT_ok (by omega) h.2 _ (by omega)

theorem eqT_ok {k : Nat} : ∀ {t1 : Tr S} {b s : Nat} {t2 : Tr S}, 0 < s → eqT k t1 b s t2 = true → ∀ j, b + s * j < k → t2.get j = t1.get j
  | .leaf a, b, s, t2, hs, h, j, hj => by
    rw [Tr.get_leaf]
    exact allT_ok hs h j hj
  | .node a l r, b, s, t2, hs, h, j, hj => by
    unfold eqT at h
    cases hb : Nat.ble k b with
    | true =>
      have h1 := Nat.le_of_ble_eq_true hb
      have : 0 ≤ s * j := Nat.zero_le _
      omega
    | false =>
      rw [hb] at h
      simp only [cond_false, Bool.and_eq_true, decide_eq_true_eq] at h
      cases j with
      | zero => rw [Tr.get_zero, Tr.get_zero]; exact h.1.1
      | succ m =>
        rw [Tr.get_succ, Tr.get_succ]
        simp only [Tr.left_node, Tr.right_node]
        have e1 : s * (m + 1) = s * m + s := by rw [Nat.mul_succ]
        have e2 : 2 * s * (m / 2) = s * (2 * (m / 2)) := by rw [Nat.mul_comm 2 s, Nat.mul_assoc]
        cases hm : Nat.beq (m % 2) 0 with
        | true =>
          have hm' := Nat.eq_of_beq_eq_true hm
          have e3 : 2 * (m / 2) = m := by omega
          rw [e3] at e2
          exact eqT_ok (by omega) h.1.2 _ (by omega)
        | false =>
          have hm' := Nat.ne_of_beq_eq_false hm
          have e4 : s * m = s * (2 * (m / 2)) + s := by rw [← Nat.mul_succ]; congr 1; omega
          exact eqT_ok (by omega) h.2 _ (by omega)

def eqvB (b1 b2 : B) : Bool :=
  match b1, b2 with
  | .row k t1 e z o, .row k2 t2 e2 z2 o2 => Nat.beq k k2 && Nat.beq e e2 && Nat.beq z z2 && (o == o2) && eqT k t1 0 1 t2
  | b1, b2 => decide (b2 = b1)

theorem eqvB_ok {b1 b2 : B} (h : eqvB b1 b2 = true) : EqvB b1 b2 := by
  unfold eqvB at h
  split at h
  · rename_i k t1 e z o k2 t2 e2 z2 o2
    simp only [Bool.and_eq_true, beq_iff_eq] at h
    obtain ⟨⟨⟨⟨h1, h2⟩, h3⟩, rfl⟩, h5⟩ := h
    obtain rfl := Nat.eq_of_beq_eq_true h1
    obtain rfl := Nat.eq_of_beq_eq_true h2
    obtain rfl := Nat.eq_of_beq_eq_true h3
    exact .inr ⟨k, t1, t2, e, z, o, rfl, rfl, fun i hi => eqT_ok (by omega) h5 i (by omega)⟩
  · exact .inl (by simpa using h)

def okB (h2 : H) (b0 b1 b2 : B) : Bool := cond (isNone b2) (isNone b0) (eqvB b1 b2 && keepB h2 b2)

def sweptT (h2 : H) : Tr B → Tr B → Tr B → Bool
  | t0, _, .leaf b => isNone b && allNone t0
  | t0, t1, .node b l r => okB h2 t0.val t1.val b && sweptT h2 t0.left t1.left l && sweptT h2 t0.right t1.right r

theorem allNone_get : ∀ {t : Tr B}, allNone t = true → ∀ n, t.get n = .none
  | .leaf b, k, n => by rw [Tr.get_leaf]; exact isNone_iff.1 k
  | .node b l r, k, 0 => by
    simp only [allNone, Bool.and_eq_true] at k
    exact isNone_iff.1 k.1.1
  | .node b l r, k, n + 1 => by
    simp only [allNone, Bool.and_eq_true] at k
    rw [Tr.get_succ]
    simp only [Tr.left_node, Tr.right_node]
    cases Nat.beq (n % 2) 0
    · exact allNone_get k.2 _
    · exact allNone_get k.1.2 _

theorem sweptT_ok {h2 : H} : ∀ {t2 t0 t1 : Tr B}, sweptT h2 t0 t1 t2 = true → ∀ n, (t2.get n = .none ∧ t0.get n = .none) ∨ (EqvB (t1.get n) (t2.get n) ∧ keepB h2 (t2.get n) = true)
  | .leaf b, t0, t1, k, n => by
    simp only [sweptT, Bool.and_eq_true] at k
    exact .inl ⟨by rw [Tr.get_leaf]; exact isNone_iff.1 k.1, allNone_get k.2 n⟩
  | .node b l r, t0, t1, k, 0 => by
    simp only [sweptT, Bool.and_eq_true] at k
    have k1 := k.1.1
    unfold okB at k1
    rw [Tr.get_zero t0, Tr.get_zero t1]
    show (b = .none ∧ t0.val = .none) ∨ (EqvB t1.val b ∧ keepB h2 b = true)
    cases hb : isNone b with
    | true => rw [hb] at k1; exact .inl ⟨isNone_iff.1 hb, isNone_iff.1 k1⟩
    | false => rw [hb] at k1; simp only [cond_false, Bool.and_eq_true] at k1; exact .inr ⟨eqvB_ok k1.1, k1.2⟩
  | .node b l r, t0, t1, k, n + 1 => by
    simp only [sweptT, Bool.and_eq_true] at k
    rw [Tr.get_succ, Tr.get_succ t0, Tr.get_succ t1]
    simp only [Tr.left_node, Tr.right_node]
    cases Nat.beq (n % 2) 0
    · exact sweptT_ok k.2 _
    · exact sweptT_ok k.1.2 _

/-- A call that was reckoned: function, arguments, memory ahead; value, memory behind. -/
structure En where
  g : FuncId
  args : List V
  h : H
  v : V
  h2 : H

noncomputable def partOk (P : Program) (nat : Nat') (n : Nat) (e : En) : Bool :=
  match runK P nat n (.call e.g e.args) ⟨0, .leaf undefV⟩ e.h with
  | some r => decide (r.v = e.v) && sweptT e.h2 e.h.t r.h.t e.h2.t && keepV e.h2 e.v
  | none => false

def EnOk (P : Program) (e : En) : Prop := ∀ B0 W0, SoundCall P B0 W0 e.g e.args e.h e.v e.h2

theorem part_ok {nat : Nat'} (hm : P.follows .mixedOrders = true) (hname : Named P) (hnat : NatOk P nat) {n : Nat} {e : En} (h : partOk P nat n e = true) : EnOk P e := by
  intro B0 W0
  unfold partOk at h
  split at h
  · rename_i r hr
    simp only [Bool.and_eq_true, decide_eq_true_eq] at h
    obtain ⟨⟨h1, h2⟩, h3⟩ := h
    have s := (runK_ok (B0 := B0) (W0 := W0) hm hname hnat n).call e.g e.args _ e.h r hr
    rw [h1] at s
    exact sweep_ok s (fun m => sweptT_ok h2 m) h3
  · cases h

/-- With what was reckoned standing in. -/
def natWith : List En → Nat' → Nat'
  | [], nat => nat
  | e :: es, nat => fun g args h =>
    cond (Nat.beq e.g g && Nat.beq e.h.next h.next) (cond (decide (e.args = args) && decide (e.h = h)) (some (some (e.v, e.h2))) (natWith es nat g args h)) (natWith es nat g args h)

theorem natWith_ok {nat : Nat'} (hnat : NatOk P nat) : ∀ {es : List En}, (∀ e ∈ es, EnOk P e) → NatOk P (natWith es nat)
  | [], _ => hnat
  | e :: es, hes => by
    intro B0 W0 g args h v h' hh
    have rest := natWith_ok hnat (es := es) (fun x hx => hes x (by simp [hx]))
    have hh' : cond (Nat.beq e.g g && Nat.beq e.h.next h.next) (cond (decide (e.args = args) && decide (e.h = h)) (some (some (e.v, e.h2))) (natWith es nat g args h)) (natWith es nat g args h) = some (some (v, h')) := hh
    cases h1 : (Nat.beq e.g g && Nat.beq e.h.next h.next) with
    | false => rw [h1] at hh'; exact rest B0 W0 g args h v h' hh'
    | true =>
      rw [h1] at hh'
      simp only [cond_true] at hh'
      cases h2 : (decide (e.args = args) && decide (e.h = h)) with
      | false => rw [h2] at hh'; exact rest B0 W0 g args h v h' hh'
      | true =>
        rw [h2] at hh'
        simp only [cond_true, Option.some.injEq, Prod.mk.injEq] at hh'
        obtain ⟨rfl, rfl⟩ := hh'
        simp only [Bool.and_eq_true, decide_eq_true_eq] at h1 h2
        have hg : e.g = g := Nat.eq_of_beq_eq_true h1.1
        have := hes e (by simp) B0 W0
        rw [hg, h2.1, h2.2] at this
        exact this

/-- A closed call: in whatever world it is made, it gives what was reckoned, and below the world's first new block nothing turns. -/
theorem closed_of {e : En} (he : EnOk P e) (hargs : e.args = []) (hh : e.h.t = .leaf .none) {u : Value} (hu : absV u = some e.v) {fn : Func} {c : Code} (hf : P.funcs[e.g]? = some fn) (hb : fn.body = some c) (hname : Named P) (w : World) :
    Calls P e.g #[] w (fun x w' => x = .returned u ∧ Below w.heap.size w w') := by
  have ga : Ga w.heap.size w (fun _ => none) e.h w := by
    have hget : ∀ m, e.h.get m = .none := fun m => by unfold H.get; rw [hh]; exact Tr.get_leaf _ _
    refine ⟨Below.refl _ _, Nat.le_refl _, fun _ _ => rfl, fun m hm => ?_, fun m hm => ?_, fun m _ y _ hm _ hy => ?_⟩
    · exact absurd (hget m) hm
    · rw [hget m] at hm; cases hm
    · cases hy
  have s := he w.heap.size w
  rw [hargs] at s
  rcases s _ w #[] ga rfl with ⟨u', w', h1, _⟩ | ⟨_, h2⟩
  · exfalso
    have hnm := hname e.g fn hf
    simp [callFunc, hf, hb] at h1
    split at h1 <;> simp at h1
  · refine h2.mono fun x w' ⟨u', hx, ν', _, k2, k3⟩ => ⟨?_, k2.below⟩
    rw [absV_cv hu ν'] at k3
    rw [hx, ← Option.some.inj k3]

end
end Ai
end Go.Proofs.YtjmhkcfdmcjilaaGreat
