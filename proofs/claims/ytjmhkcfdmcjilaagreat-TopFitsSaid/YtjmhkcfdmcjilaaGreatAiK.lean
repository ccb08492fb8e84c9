/-
  Calls, whatever operation comes up, regions in their written order.
-/
import Derived.Test.YtjmhkcfdmcjilaaGreatAiJ
namespace Go.Proofs.YtjmhkcfdmcjilaaGreat
namespace Ai
open Go.RowKit
section
variable {P : Program} {B0 : Nat} {W0 : World} {ν : Nu} {h : H} {w : World}

/-- A call ends in a value, and in a world, of which R is so. -/
def CallR (P : Program) (g : FuncId) (vs : Array Value) (w : World) (R : Value → World → Prop) : Prop :=
  (∃ u w', (callFunc g vs).run P w = .ok (.value u) w' ∧ R u w') ∨
  ((callFunc g vs).run P w = .ok (.enter g vs) w ∧ Calls P g vs w (fun e w' => ∃ u, e = .returned u ∧ R u w'))

def ArgsR (ν : Nu) (l : List V) (vs : Array Value) : Prop := l.map (cvV ν) = vs.toList.map some

/-- What a call comes to, is so. -/
def SoundCall (P : Program) (B0 : Nat) (W0 : World) (g : FuncId) (args : List V) (h : H) (v : V) (h' : H) : Prop :=
  ∀ ν w vs, Ga B0 W0 ν h w → ArgsR ν args vs → CallR P g vs w (fun u w' => ∃ ν', ν.le ν' ∧ Ga B0 W0 ν' h' w' ∧ cvV ν' v = some u)

theorem cvCs_args : ∀ {cs : List C} {l : List Value}, cvCs ν cs = some l → (cs.map cV).map (cvV ν) = l.map some
  | [], l, e => by simp only [cvCs, Option.some.injEq] at e; subst e; rfl
  | c :: cs, l, e => by
    simp only [cvCs] at e
    cases h1 : cvC ν c with
    | none => simp [h1] at e
    | some v =>
      cases h2 : cvCs ν cs with
      | none => simp [h1, h2] at e
      | some us =>
        simp only [h1, h2, Option.some.injEq] at e
        subst e
        simp only [List.map_cons, cvCs_args h2, List.cons.injEq, and_true]
        cases c with
        | p n off => simpa [cV, cvV, cvW, cvS, cvC] using h1
        | i k x => simpa [cV, cvV, cvW, cvS, cvC] using h1

theorem aTarget_ok {f : F} {a : Act} (r : FR ν f a.tmps) {c : Call} {g : FuncId} {args : List V} (e : aTarget P f c = some (g, args)) (dst : Option Tmp) (ty : TypeId) (pos : String) (af : Array Edge) (gd : Option (Nat × Bool)) :
    ∃ vs, ArgsR ν args vs ∧ ∀ w, (execOp a.eval ⟨dst, .call c, ty, pos, af, gd⟩).run P w = (callFunc g vs).run P w := by
  obtain ⟨callee, xs, ats⟩ := c
  unfold aTarget at e
  simp only at e
  split at e
  · rename_i x l hl
    split at e
    · rename_i g' cs hx
      simp only [Option.some.injEq, Prod.mk.injEq] at e
      obtain ⟨rfl, rfl⟩ := e
      have h1 := ev_ok r hx
      simp only [cvV, cvW, cvS] at h1
      cases hcs : cvCs ν cs with
      | none => simp [hcs] at h1
      | some us =>
        simp only [hcs, Option.some.injEq] at h1
        refine ⟨xs.map a.eval ++ us.toArray, ?_, fun w => ?_⟩
        · unfold ArgsR
          rw [List.map_append, args_of r hl, cvCs_args hcs]
          simp
        · simp [execOp, resolve, ← h1, Deferred.ofValue, invoke]
    · cases e
  · rename_i x name l hl
    split at e
    · rename_i t n off hx
      split at e
      · rename_i i elem hi hu
        split at e
        · rename_i m hm
          split at e
          · rename_i g' hp hf
            simp only [Option.some.injEq, Prod.mk.injEq] at e
            obtain ⟨rfl, rfl⟩ := e
            have h1 := ev_ok r hx
            simp only [cvV, cvW, cvS, cvC] at h1
            cases hn : ν n with
            | none => simp [hn] at h1
            | some y =>
              simp only [hn, Option.some.injEq] at h1
              refine ⟨#[.pointer (some ⟨y.1, off, none⟩)] ++ xs.map a.eval, ?_, fun w => ?_⟩
              · unfold ArgsR
                rw [List.map_cons, args_of r hl]
                simp [ptr_mk off hn]
              · show (do let d ← resolve a.eval ⟨.invoke x name, xs, ats⟩ ty; invoke d.target d.args : Sem Next).run P w = _
                simp only [resolve, ← h1, Sem.run_bind, Sem.run_pure, Result.andThen_ok, invoke]
                have hmeth : (method ((P.types.size + Made.depth - 1) + 1) t (.pointer (some ⟨y.1, off, none⟩)) name).run P w = .ok (g', .pointer (some ⟨y.1, off, none⟩)) w := by
                  have hpath : m.path = #[] := by apply Array.ext'; simpa using hp
                  simp [method, typeInfo, hi, hm, hp, hf, follow, receiverAt, run_underlying hu, Place.get]
                have hdep : P.types.size + Made.depth - 1 + 1 = P.types.size + Made.depth := by have : 0 < Made.depth := by decide
                                                                                                omega
                rw [hdep] at hmeth
                generalize xs.map a.eval = ys
                have h0 : (#[Value.iface t (.pointer (some ⟨y.1, off, none⟩))] ++ ys)[0]? = some (Value.iface t (.pointer (some ⟨y.1, off, none⟩))) := by
                  rw [Array.getElem?_append_left (by simp)]; rfl
                have h3 : (#[Value.iface t (.pointer (some ⟨y.1, off, none⟩))] ++ ys).extract 1 (#[Value.iface t (.pointer (some ⟨y.1, off, none⟩))] ++ ys).size = ys := by
                  apply Array.ext'
                  simp
                rw [h0, h3]
                simp only [callMethod, Sem.run_bind, run_program, Result.andThen_ok, hmeth]
          · cases e
        · cases e
      · cases e
    · cases e
  · cases e

/-- Whatever operation comes up. -/
theorem oper_ok {ih : Task → F → H → Option Res} (ihc : ∀ g args f h res, ih (.call g args) f h = some res → SoundCall P B0 W0 g args h res.v res.h) (g : Ga B0 W0 ν h w) {f : F} {a : Act} (r : FR ν f a.tmps) {o : Oper} {v : V} {h' : H}
    (e : aOper P ih f h o.op = some (v, h')) {next : Act → World → Prop} {Q : Exit → Act → World → Prop}
    (hnext : ∀ u ν' w', ν.le ν' → Ga B0 W0 ν' h' w' → cvV ν' v = some u → next (a.put o.dst u) w') : o.wp P a w next Q := by
  unfold Oper.wp
  unfold aOper at e
  split at e
  · rename_i v' hp
    simp only [Option.some.injEq, Prod.mk.injEq] at e
    obtain ⟨rfl, rfl⟩ := e
    obtain ⟨u, hu, hr⟩ := pure_ok (P := P) r hp
    rw [hr w]
    exact hnext u ν w (Nu.le_refl ν) g hu
  · split at e
    · rename_i q hm
      simp only [Option.some.injEq] at e
      subst e
      obtain ⟨u, ν', w', hy, k2, k3, k4⟩ := mem_ok (P := P) g r hm
      rcases hy with hy | ⟨hy, rfl⟩
      · rw [hy]; exact hnext u ν' w' k2 k3 k4
      · rw [hy]; exact hnext _ ν' w' k2 k3 k4
    · obtain ⟨dst, op, ty, pos, af, gd⟩ := o
      simp only at e
      split at e
      · rename_i c
        split at e
        · rename_i g' args ht
          cases hi : ih (.call g' args) f h with
          | none => simp [hi] at e
          | some res =>
            simp only [hi, Option.map_some, Option.some.injEq, Prod.mk.injEq] at e
            obtain ⟨rfl, rfl⟩ := e
            obtain ⟨vs, k1, k2⟩ := aTarget_ok (P := P) r ht dst ty pos af gd
            rw [k2 w]
            rcases ihc g' args f h res hi ν w vs g k1 with ⟨u, w', j1, ν', j2, j3, j4⟩ | ⟨j1, j2⟩
            · rw [j1]; exact hnext u ν' w' j2 j3 j4
            · rw [j1]
              show Calls P g' vs w _
              refine j2.mono fun e w' ⟨u, he, ν', i1, i2, i3⟩ => ?_
              subst he
              exact hnext u ν' w' i1 i2 i3
        · cases e
      · cases e

theorem bool_same {x : V} {v : Value} (hv : cvV ν x = some v) (want : Bool) :
    ((match (some v : Option Value) with | some (.bool b) => some b | _ => none) == some want) = vIs want x := by
  cases x with
  | t l =>
    simp only [cvV] at hv
    split at hv
    · simp only [Option.some.injEq] at hv; subst hv; rfl
    · cases hv
  | w y =>
    cases y with
    | a l =>
      simp only [cvV, cvW] at hv
      split at hv
      · simp only [Option.some.injEq] at hv; subst hv; rfl
      · cases hv
    | s s =>
      simp only [cvV, cvW] at hv
      cases s with
      | b x => simp only [cvS, Option.some.injEq] at hv; subst hv; simp [vIs]
      | se n off d =>
        simp only [cvS] at hv
        split at hv
        · rename_i y _
          simp only [Option.some.injEq] at hv
          subst hv
          by_cases hy : y.2 = 0 <;> simp only [hy, if_true, if_false] <;> rfl
        · cases hv
      | _ =>
        simp only [cvS] at hv
        first
          | (simp only [Option.some.injEq] at hv; subst hv; rfl)
          | (split at hv
             · simp only [Option.some.injEq] at hv; subst hv; rfl
             · cases hv)
          | (cases hv; done)

theorem wanted_ok {f : F} {a : Act} (r : FR ν f a.tmps) (ops : Array Oper) (o : Oper) : Region.wanted o (yielded ops a.tmps) = aWanted f ops o := by
  unfold Region.wanted aWanted
  cases hg : o.guard with
  | none => rfl
  | some gw =>
    obtain ⟨j, want⟩ := gw
    simp only [yielded]
    cases hd : (ops[j]?).bind (·.dst) with
    | none => simp
    | some d =>
      simp only [Option.bind_some]
      have h1 := r.2 d
      cases hlt : Nat.blt d f.n with
      | false =>
        have h2 : ¬ d < a.tmps.size := by
          rw [r.1]; intro hh
          have : Nat.blt d f.n = true := Nat.ble_eq_true_of_le hh
          rw [this] at hlt; cases hlt
        rw [Array.getElem?_eq_none (Nat.not_lt.1 h2)]
        simp only [cond_false]
        rfl
      | true =>
        have h2 : d < a.tmps.size := by rw [r.1]; exact Nat.le_of_ble_eq_true hlt
        rw [Array.getElem?_eq_getElem h2]
        have h3 : a.tmps.getD d undef = a.tmps[d] := by simp [h2]
        rw [h3] at h1
        simp only [cond_true]
        exact bool_same h1 want

/-- The frame, the memory, no deferred calls. -/
structure St (B0 : Nat) (W0 : World) (ν : Nu) (f : F) (h : H) (a : Act) (w : World) : Prop where
  ga : Ga B0 W0 ν h w
  fr : FR ν f a.tmps
  df : a.defers = []

theorem put_defers (a : Act) (dst : Option Tmp) (v : Value) : (a.put dst v).defers = a.defers := by cases dst <;> rfl

theorem ops_ok {ih : Task → F → H → Option Res} (ihc : ∀ g args f h res, ih (.call g args) f h = some res → SoundCall P B0 W0 g args h res.v res.h) (ops : Array Oper) {f' : F} {h' : H} {Q : Exit → Act → World → Prop} :
    ∀ (l : List Oper) {ν : Nu} {f : F} {h : H} {a : Act} {w : World}, St B0 W0 ν f h a w → aOps P ih ops l f h = some (f', h') → (∀ ν' a' w', ν.le ν' → St B0 W0 ν' f' h' a' w' → Q .normal a' w') → wpList P ops Q l a w
  | [], ν, f, h, a, w, s, e, hQ => by
    simp only [aOps, Option.some.injEq, Prod.mk.injEq] at e
    obtain ⟨rfl, rfl⟩ := e
    exact hQ ν a w (Nu.le_refl ν) s
  | o :: rest, ν, f, h, a, w, s, e, hQ => by
    simp only [wpList]
    rw [wanted_ok s.fr ops o]
    simp only [aOps] at e
    cases hw : aWanted f ops o with
    | true =>
      simp only [hw, cond_true] at e
      simp only [if_true]
      split at e
      · rename_i v h1 ho
        split at e
        · rename_i f1 hf
          refine .inl (oper_ok ihc s.ga s.fr ho fun u ν' w' k1 k2 k3 => ?_)
          exact ops_ok ihc ops rest ⟨k2, put_ok (s.fr.mono k1) hf k3, by rw [put_defers]; exact s.df⟩ e fun ν2 a2 w2 j1 j2 => hQ ν2 a2 w2 (Nu.le_trans k1 j1) j2
        · cases e
      · cases e
    | false =>
      simp only [hw, cond_false] at e
      simp only [Bool.false_eq_true, if_false]
      split at e
      · rename_i f1 hf
        exact ops_ok ihc ops rest ⟨s.ga, put_ok s.fr hf undef_cv, by rw [put_defers]; exact s.df⟩ e hQ
      · cases e

end
end Ai
end Go.Proofs.YtjmhkcfdmcjilaaGreat
