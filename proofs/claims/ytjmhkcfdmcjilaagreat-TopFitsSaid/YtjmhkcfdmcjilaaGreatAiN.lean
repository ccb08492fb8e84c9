/-
  What the reckoner says of code and of calls is so: 'run_ok'.
-/
import Derived.Test.YtjmhkcfdmcjilaaGreatAiM
namespace Go.Proofs.YtjmhkcfdmcjilaaGreat
namespace Ai
open Go.RowKit
section
variable {P : Program} {B0 : Nat} {W0 : World}

def exOf : E → Exit
  | .normal => .normal
  | .ret => .ret
  | .exit id => .exit id

def PostR (B0 : Nat) (W0 : World) (ν : Nu) (res : Res) (Q : Exit → Act → World → Prop) : Prop :=
  ∀ ν' a' w', ν.le ν' → St B0 W0 ν' res.f res.h a' w' → Q (exOf res.e) a' w'

def SoundCode (P : Program) (B0 : Nat) (W0 : World) (c : Code) (f : F) (h : H) (res : Res) : Prop :=
  ∀ ν a w, St B0 W0 ν f h a w → ∀ Q, PostR B0 W0 ν res Q → c.wp P Q a w

def SoundLoop (P : Program) (B0 : Nat) (W0 : World) (k : Nat) (c : Code) (f : F) (h : H) (res : Res) : Prop :=
  ∀ ν a w, St B0 W0 ν f h a w → ∀ Q, PostR B0 W0 ν res Q → Code.rounds P c Q k a w

structure Good (P : Program) (B0 : Nat) (W0 : World) (k : Nat) (r : Task → F → H → Option Res) : Prop where
  code : ∀ c f h res, r (.code c) f h = some res → SoundCode P B0 W0 c f h res
  loop : ∀ c f h res, r (.loop c) f h = some res → SoundLoop P B0 W0 k c f h res
  call : ∀ g args f h res, r (.call g args) f h = some res → SoundCall P B0 W0 g args h res.v res.h

theorem ofArgs_get : ∀ (l : List V) (i : Nat) (t : Tr V), i + l.length ≤ top → ∀ j, (Tr.ofArgs i l t).get j = if i ≤ j then (match l[j - i]? with | some x => x | none => t.get j) else t.get j
  | [], i, t, _, j => by simp [Tr.ofArgs]
  | x :: l, i, t, h, j => by
    simp only [List.length_cons] at h
    simp only [Tr.ofArgs, fV_eq, Tr.setK_eq]
    rw [ofArgs_get l (i + 1) _ (by omega) j, Tr.get_set16 t i x (by omega)]
    by_cases h1 : i + 1 ≤ j
    · have h2 : i ≤ j := by omega
      have h3 : j - i = (j - (i + 1)) + 1 := by omega
      have h4 : ¬ j = i := by omega
      simp only [h1, h2, if_true, h3, List.getElem?_cons_succ, h4, if_false]
    · by_cases h2 : i ≤ j
      · have h3 : j = i := by omega
        subst h3
        rw [if_neg h1, if_pos h2]
        simp
      · have h4 : ¬ j = i := by omega
        simp [h1, h2, h4]

theorem enter_fr {ν : Nu} {args : List V} {vs : Array Value} (ha : ArgsR ν args vs) {n : Nat} (hn : args.length ≤ n) (ht : args.length + n < top) :
    FR ν ⟨n, Tr.ofArgs 0 args (.leaf undefV)⟩ (vs ++ Array.replicate (n - vs.size) undef) := by
  have hlen : vs.size = args.length := by
    have := congrArg List.length ha
    simpa using this.symm
  refine ⟨by simp; omega, fun t => ?_⟩
  show cvV ν ((Tr.ofArgs 0 args (.leaf undefV)).get t) = _
  rw [ofArgs_get args 0 _ (by omega), if_pos (Nat.zero_le t), Nat.sub_zero, Tr.get_leaf]
  by_cases h1 : t < args.length
  · rw [List.getElem?_eq_getElem h1]
    have h2 : (args.map (cvV ν))[t]? = (vs.toList.map some)[t]? := by rw [ha]
    rw [List.getElem?_map, List.getElem?_map, List.getElem?_eq_getElem h1, Array.getElem?_toList, Array.getElem?_eq_getElem (by omega)] at h2
    simp only [Option.map_some, Option.some.injEq] at h2
    rw [h2]
    have h3 : t < vs.size := by omega
    simp [Array.getElem?_append_left h3, h3]
  · rw [List.getElem?_eq_none (by omega)]
    simp only [undef_cv]
    have h3 : vs.size ≤ t := by omega
    simp only [Array.getD_eq_getD_getElem?]
    rw [Array.getElem?_append_right h3, Array.getElem?_replicate]
    split <;> rfl

/-- One result, as the machine reads it. -/
def readR (a : Act) : ResultVar → Sem Value
  | .tmp t => pure (a.tmps.getD t undef)
  | .cell x t => do loadVar t (← asAddr (a.tmps.getD x undef))

theorem result_ok {ν : Nu} {f : F} {h : H} {a : Act} {w : World} (s : St B0 W0 ν f h a w) {r : ResultVar} {v : V} (e : aResult P f h r = some v) :
    ∃ u, cvV ν v = some u ∧ (readR a r).run P w = .ok u w := by
  cases r with
  | tmp t =>
    simp only [aResult, Option.some.injEq] at e
    subst e
    exact ⟨_, s.fr.2 t, rfl⟩
  | cell x t =>
    simp only [aResult] at e
    have hx := s.fr.2 x
    obtain ⟨u, k1, k2⟩ := load_ok (P := P) s.ga e hx
    refine ⟨u, k1, ?_⟩
    unfold aLoad at e
    split at e
    · rename_i n off hp
      rw [hp] at hx
      obtain ⟨y, hy, hv⟩ := ptr_of hx
      rw [hv] at k2
      simpa [readR, hv, Instr.loadAt, Instr.sureAddr, asAddr] using k2
    · cases e

theorem results_ok {ν : Nu} {f : F} {h : H} {a : Act} {w : World} (s : St B0 W0 ν f h a w) : ∀ {l : List ResultVar} {xs : List W}, aResults P f h l = some xs →
    ∃ vs, cvWs ν xs = some vs ∧ (l.mapM (m := Sem) (readR a)).run P w = .ok vs w
  | [], xs, e => by
    simp only [aResults, Option.some.injEq] at e
    subst e
    exact ⟨[], rfl, by simp⟩
  | r :: l, xs, e => by
    simp only [aResults] at e
    split at e
    · rename_i x hx
      cases h2 : aResults P f h l with
      | none => simp [h2] at e
      | some ys =>
        simp only [h2, Option.some.injEq] at e
        subst e
        obtain ⟨u, k1, k2⟩ := result_ok (P := P) s hx
        obtain ⟨us, k3, k4⟩ := results_ok s h2
        have k1' : cvW ν x = some u := k1
        refine ⟨u :: us, by simp only [cvWs, k1', k3], ?_⟩
        simp only [List.mapM_cons, Sem.run_bind, k2, Result.andThen_ok, k4, Sem.run_pure]
    · cases e

theorem cvWs_length {ν : Nu} : ∀ {l : List W} {vs : List Value}, cvWs ν l = some vs → vs.length = l.length
  | [], vs, e => by simp only [cvWs, Option.some.injEq] at e; subst e; rfl
  | x :: l, vs, e => by
    simp only [cvWs] at e
    split at e
    · rename_i v us _ h2
      simp only [Option.some.injEq] at e
      subst e
      simp [cvWs_length h2]
    · cases e

theorem out_ok {ν : Nu} {f : F} {h : H} {a : Act} {w : World} (s : St B0 W0 ν f h a w) {fn : Func} {v : V} (e : aOut P f h fn.results.toList = some v) :
    ∃ u, cvV ν v = some u ∧ (results fn a.tmps).run P w = .ok u w := by
  unfold aOut at e
  have key : ∀ xs, aResults P f h fn.results.toList = some xs → ∃ vs : List Value, cvWs ν xs = some vs ∧ (results fn a.tmps).run P w = .ok (if h : vs.toArray.size = 1 then vs.toArray[0] else .tuple vs.toArray) w := fun xs hx => by
    obtain ⟨vs, k1, k2⟩ := results_ok (P := P) s hx
    refine ⟨vs, k1, ?_⟩
    have hr : results fn a.tmps = (do let vs ← fn.results.mapM (m := Sem) (readR a); pure (if h : vs.size = 1 then vs[0] else .tuple vs)) := by
      unfold results
      congr 2
    rw [hr, Array.mapM_eq_mapM_toList]
    simp only [Sem.run_bind, Sem.run_map, k2, Result.andThen_ok, Sem.run_pure]
  split at e
  · rename_i x hx
    simp only [Option.some.injEq] at e
    subst e
    obtain ⟨vs, k1, k2⟩ := key _ hx
    have hl := cvWs_length k1
    match vs, hl with
    | [u], _ =>
      simp only [cvWs] at k1
      cases hu : cvW ν x with
      | none => simp [hu] at k1
      | some u' =>
        simp only [hu, Option.some.injEq, List.cons.injEq, and_true] at k1
        subst k1
        exact ⟨u', hu, by simpa using k2⟩
  · rename_i l hne hx
    simp only [Option.some.injEq] at e
    subst e
    obtain ⟨vs, k1, k2⟩ := key _ hx
    have hl := cvWs_length k1
    refine ⟨.tuple vs.toArray, by simp only [cvV, k1], ?_⟩
    have h1 : ¬ vs.toArray.size = 1 := by
      rw [List.size_toArray, hl]
      intro h1
      match l, h1 with
      | [x], _ => exact hne x rfl
    rw [dif_neg h1] at k2
    exact k2
  · cases e

/-- No function is the one that the machine carries out itself. -/
def Named (P : Program) : Prop := ∀ (g : Nat) (fn : Func), P.funcs[g]? = some fn → (fn.name == "runtime.NumGoroutine") = false

/-- What stands in is so. -/
def NatOk (P : Program) (nat : Nat') : Prop := ∀ B0 W0 g args h v h', nat g args h = some (some (v, h')) → SoundCall P B0 W0 g args h v h'

theorem step_ok {nat : Nat'} (hm : P.follows .mixedOrders = true) (hname : Named P) (hnat : NatOk P nat) {k : Nat} {ih : Task → F → H → Option Res} (G : Good P B0 W0 k ih) :
    Good P B0 W0 (k + 1) (step P nat ih) where
  call := fun g args f h res e => by
    simp only [step] at e
    split at e
    · rename_i v h' hn
      simp only [Option.some.injEq] at e
      subst e
      exact hnat B0 W0 g args h v h' hn
    · cases e
    · split at e
      · rename_i fn hf
        split at e
        · rename_i c hb
          cases hc : (Nat.blt (args.length + fn.ntmps) top && Nat.ble args.length fn.ntmps) with
          | false => simp only [hc, cond_false, reduceCtorEq] at e
          | true =>
            simp only [hc, cond_true] at e
            simp only [Bool.and_eq_true, Nat.blt, ble_dec, decide_eq_true_eq] at hc
            intro ν w vs ga ha
            refine .inr ⟨?_, calls_of_wp hf hb ?_⟩
            · have h1 := hname g fn hf
              simp [callFunc, hf, hb]
              simpa using h1
            · have hst : St B0 W0 ν ⟨fn.ntmps, Tr.ofArgs 0 args (.leaf undefV)⟩ h { tmps := vs ++ Array.replicate (fn.ntmps - vs.size) undef, defers := [] } w :=
                ⟨ga, enter_fr ha hc.2 (by omega), rfl⟩
              have fin : ∀ r, ih (.code c) ⟨fn.ntmps, Tr.ofArgs 0 args (.leaf undefV)⟩ h = some r → (∀ id, r.e ≠ .exit id) → (aOut P r.f r.h fn.results.toList).map (fun v => (⟨.normal, f, r.h, v⟩ : Res)) = some res →
                  c.wp P (bodyPost P fn fun e w' => ∃ u, e = .returned u ∧ ∃ ν', ν.le ν' ∧ Ga B0 W0 ν' res.h w' ∧ cvV ν' res.v = some u) { tmps := vs ++ Array.replicate (fn.ntmps - vs.size) undef, defers := [] } w := fun r hr hne ho => by
                obtain ⟨v, h1, h2⟩ := map_some ho
                subst h2
                refine G.code c _ h r hr ν _ w hst _ fun ν' a' w' l1 s1 => ?_
                obtain ⟨u, k1, k2⟩ := out_ok (P := P) s1 h1
                have hpost : a'.defers = [] ∧ ∃ v', (results fn a'.tmps).run P w' = .ok v' w' ∧ ∃ u, (.returned v' : Ending) = .returned u ∧ ∃ ν2, ν.le ν2 ∧ Ga B0 W0 ν2 r.h w' ∧ cvV ν2 v = some u :=
                  ⟨s1.df, u, k2, u, rfl, ν', l1, s1.ga, k1⟩
                cases he : r.e with
                | normal => exact hpost
                | ret => exact hpost
                | exit id => exact absurd he (hne id)
              split at e
              · cases e
              · rename_i ee ff hh vv hne hr
                exact fin _ hr (fun id he => hne id he) e
              · cases e
        · cases e
      · cases e
  loop := fun c f h res e => by
    intro ν a w s Q hQ
    rw [rounds_succ]
    simp only [step] at e
    split at e
    · rename_i f1 h1 v1 hr
      refine G.code c f h _ hr ν a w s _ fun ν' a' w' l1 s1 => ?_
      exact G.loop c f1 h1 res e ν' a' w' s1 Q fun ν2 a2 w2 l2 s2 => hQ ν2 a2 w2 (Nu.le_trans l1 l2) s2
    · rename_i r hne
      refine G.code c f h res e ν a w s _ fun ν' a' w' l1 s1 => ?_
      have := hQ ν' a' w' l1 s1
      cases he : res.e with
      | normal =>
        exfalso
        obtain ⟨ee, ff, hh, vv⟩ := res
        simp only at he
        subst he
        exact hne ff hh vv e
      | ret => rw [he] at this; exact this
      | exit id => rw [he] at this; exact this
  code := fun c f h res e => by
    intro ν a w s Q hQ
    cases c with
    | skip =>
      simp only [step, Option.some.injEq] at e
      subst e
      exact wp_skip (hQ ν a w (Nu.le_refl ν) s)
    | ret =>
      simp only [step, Option.some.injEq] at e
      subst e
      exact wp_ret (hQ ν a w (Nu.le_refl ν) s)
    | exit id =>
      simp only [step, Option.some.injEq] at e
      subst e
      exact wp_exit (hQ ν a w (Nu.le_refl ν) s)
    | seq x y =>
      simp only [step] at e
      refine wp_seq ?_
      split at e
      · rename_i f1 h1 v1 hr
        refine G.code x f h _ hr ν a w s _ fun ν' a' w' l1 s1 => ?_
        exact G.code y f1 h1 res e ν' a' w' s1 Q fun ν2 a2 w2 l2 s2 => hQ ν2 a2 w2 (Nu.le_trans l1 l2) s2
      · rename_i r hne
        refine G.code x f h res e ν a w s _ fun ν' a' w' l1 s1 => ?_
        have := hQ ν' a' w' l1 s1
        cases he : res.e with
        | normal =>
          exfalso
          obtain ⟨ee, ff, hh, vv⟩ := res
          simp only at he
          subst he
          exact hne ff hh vv e
        | ret => rw [he] at this; exact this
        | exit id => rw [he] at this; exact this
    | cond x y z =>
      simp only [step] at e
      split at e
      · rename_i t ht
        have hc := bool_of (ev_ok s.fr ht)
        refine wp_cond hc ?_
        have := G.code _ f h res e ν a w s Q hQ
        cases t <;> exact this
      · cases e
    | block id x =>
      simp only [step] at e
      refine wp_block ?_
      split at e
      · rename_i id' f1 h1 v1 hr
        refine G.code x f h _ hr ν a w s _ fun ν' a' w' l1 s1 => ?_
        by_cases hid : id' = id
        · simp only [hid, beq_dec, decide_true, cond_true, Option.some.injEq] at e
          subst e
          have := hQ ν' a' w' l1 s1
          simp only [exOf, Exit.inBlock, hid, if_true]
          exact this
        · simp only [hid, beq_dec, decide_false, cond_false, Option.some.injEq] at e
          subst e
          have := hQ ν' a' w' l1 s1
          simp only [exOf, Exit.inBlock, hid, if_false]
          exact this
      · rename_i r hne
        refine G.code x f h res e ν a w s _ fun ν' a' w' l1 s1 => ?_
        have := hQ ν' a' w' l1 s1
        cases he : res.e with
        | normal => rw [he] at this; exact this
        | ret => rw [he] at this; exact this
        | exit id' =>
          exfalso
          obtain ⟨ee, ff, hh, vv⟩ := res
          simp only at he
          subst he
          exact hne id' ff hh vv e
    | loop x =>
      simp only [step] at e
      exact wp_loop_rounds k (G.loop x f h res e ν a w s Q hQ)
    | region id ops draw =>
      cases draw with
      | false =>
        simp only [step] at e
        obtain ⟨r, h1, h2⟩ := map_some e
        subst h2
        exact wp_region_list (ops_ok G.call ops ops.toList s h1 hQ)
      | true =>
        simp only [step] at e
        split at e
        · rename_i steps hp
          cases hs : Region.noSelect ops with
          | false => simp only [hs, cond_false, reduceCtorEq] at e
          | true =>
            simp only [hs, cond_true] at e
            obtain ⟨r, h1, h2⟩ := map_some e
            subst h2
            exact drawn_region hm G.call hs hp s h1 hQ
        · cases e
    | scope x => simp [step] at e
    | label l => simp [step] at e
    | goto l => simp [step] at e
    | refuse y => simp [step] at e
    | rangeFunc x y z u => simp [step] at e

theorem run_ok {nat : Nat'} (hm : P.follows .mixedOrders = true) (hname : Named P) (hnat : NatOk P nat) : ∀ n, Good P B0 W0 n (run P nat n)
  | 0 => ⟨fun _ _ _ _ e => by simp [run] at e, fun _ _ _ _ e => by simp [run] at e, fun _ _ _ _ _ e => by simp [run] at e⟩
  | n + 1 => step_ok hm hname hnat (run_ok hm hname hnat n)

/-- A closed call: in whatever world it is made, it gives what the reckoner gives, and below the world's first new block nothing turns. -/
theorem closed_call {nat : Nat'} (hm : P.follows .mixedOrders = true) (hname : Named P) (hnat : NatOk P nat) {n : Nat} {g : FuncId} {f : F} {res : Res}
    (e : run P nat n (.call g []) f ⟨.leaf .none, 0⟩ = some res) {u : Value} (hu : absV u = some res.v) (hnone : nat g [] ⟨.leaf .none, 0⟩ = none) (w : World) :
    Calls P g #[] w (fun e w' => e = .returned u ∧ Below w.heap.size w w') := by
  have ga : Ga w.heap.size w (fun _ => none) ⟨.leaf .none, 0⟩ w := by
    refine ⟨Below.refl _ _, Nat.le_refl _, fun _ _ => rfl, fun m hm => ?_, fun m hm => ?_, fun m _ y _ hm _ hy => ?_⟩
    · exact absurd (Tr.get_leaf _ _) hm
    · have : live (.none : B) = true := by rw [← Tr.get_leaf (B.none) m]; exact hm
      cases this
    · cases hy
  rcases (run_ok (B0 := w.heap.size) (W0 := w) hm hname hnat n).call g [] f _ res e _ w #[] ga rfl with ⟨u', w', h1, _⟩ | ⟨_, h2⟩
  · exfalso
    cases n with
    | zero => simp [run] at e
    | succ n =>
      have e' : step P nat (run P nat n) (.call g []) f ⟨.leaf .none, 0⟩ = some res := e
      simp only [step, hnone] at e'
      split at e'
      · rename_i fn hf
        split at e'
        · rename_i c hb
          have hnm := hname g fn hf
          simp [callFunc, hf, hb] at h1
          split at h1 <;> simp at h1
        · cases e'
      · cases e'
  · refine h2.mono fun e w' ⟨u', he, ν', _, k2, k3⟩ => ⟨?_, k2.below⟩
    rw [absV_cv hu ν'] at k3
    rw [he, ← Option.some.inj k3]

end
end Ai
end Go.Proofs.YtjmhkcfdmcjilaaGreat
