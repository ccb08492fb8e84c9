/-
  Operations that look at no memory, one by one.
-/
import Derived.Test.YtjmhkcfdmcjilaaGreatAiE
namespace Go.Proofs.YtjmhkcfdmcjilaaGreat
namespace Ai
open Go.RowKit
section
variable {P : Program} {ν : Nu}

theorem eqGuard_int (op : BinOp) (t : TypeId) (x y : Operand) (k k' : IntKind) (m n : Int) (w : World) : (eqGuard op t x y (.int k m) (.int k' n)).run P w = .ok () w := by
  unfold eqGuard
  cases op <;> simp

theorem eqGuard_string (op : BinOp) (t : TypeId) (x y : Operand) (l r : ByteArray) (w : World) : (eqGuard op t x y (.string l) (.string r)).run P w = .ok () w := by
  unfold eqGuard
  cases op <;> simp

theorem aIntOp_ok {op : BinOp} {t : TypeId} {k : IntKind} {m n : Int} {s : S} (h : aIntOp op k m n = some s) : ∃ u, cvS ν s = some u ∧ ∀ w, (binOp op t (.int k m) (.int k n)).run P w = .ok u w := by
  cases op <;> simp only [aIntOp, wrapF_eq, iLt_eq, iEq_eq] at h <;> first
    | (simp only [Option.some.injEq] at h
       subst h
       exact ⟨_, rfl, fun w => by simp [binOp, Op.intArith, Op.intBits, Op.intCmp, bne, ← Int.not_lt]⟩)
    | (cases hn : (n == 0) with
       | true => simp [hn] at h
       | false =>
         simp only [hn, cond_false, Option.some.injEq] at h
         subst h
         exact ⟨_, rfl, fun w => by simp only [beq_eq_false_iff_ne] at hn; simp [binOp, Op.intDiv, hn]⟩)
    | (simp at h)

theorem aShift_ok {op : BinOp} {t : TypeId} {k k' : IntKind} {m n : Int} {s : S} (h : aShift op k m n = some s) : ∃ u, cvS ν s = some u ∧ ∀ w, (binOp op t (.int k m) (.int k' n)).run P w = .ok u w := by
  unfold aShift at h
  cases hn : decide (n < 0) with
  | true => simp [hn] at h
  | false =>
    simp only [hn, cond_false] at h
    simp only [decide_eq_false_iff_not] at hn
    cases op <;> simp only [Option.some.injEq, reduceCtorEq] at h <;> subst h <;> exact ⟨_, rfl, fun w => by simp [binOp, Op.shift, hn]⟩

theorem toList_mk (l : List UInt8) : (ByteArray.mk l.toArray).toList = l := by
  have : ∀ (r : List UInt8) (i : Nat), (ByteArray.mk l.toArray).size - i = (l.drop i).length → r.reverse ++ l.drop i = ByteArray.toList.loop ⟨l.toArray⟩ i r := by
    intro r i
    induction hn : (l.drop i).length generalizing r i with
    | zero =>
      intro _
      unfold ByteArray.toList.loop
      have h1 : l.drop i = [] := List.length_eq_zero_iff.1 hn
      have h2 : ¬ i < (ByteArray.mk l.toArray).size := by
        have := List.drop_eq_nil_iff.1 h1
        simpa [ByteArray.size] using this
      simp [h1, h2]
    | succ n ih =>
      intro _
      unfold ByteArray.toList.loop
      have h2 : i < l.length := by simp at hn; omega
      have h3 : i < (ByteArray.mk l.toArray).size := by simpa [ByteArray.size] using h2
      rw [if_pos h3]
      have h4 : (l.drop (i + 1)).length = n := by simp at hn ⊢; omega
      rw [← ih _ _ h4 (by simp [ByteArray.size]; simp at hn; omega)]
      rw [List.drop_eq_getElem_cons h2]
      simp [ByteArray.get!, h2]
  simpa [ByteArray.toList, ByteArray.size] using (this [] 0 (by simp [ByteArray.size])).symm

theorem equal_run {t : TypeId} {d : TypeDesc} {a b : Value} {q : Bool} (hu : P.underlying t = some d) (h : P.underlying t = some d → ∀ n w, (Op.equalIn (n + 1) t a b).run P w = .ok q w) (w : World) : (Op.equal t a b).run P w = .ok q w :=
  h hu 9999 w

/-- Neither ints nor strings nor what else has operators of its own. -/
def plainEq (a b : Value) : Prop := (∀ op t, binOp op t a b = match op with
  | .eql => (do pure (.bool (← Op.equal t a b)))
  | .neq => (do pure (.bool (!(← Op.equal t a b))))
  | op => binOp op t a b)

theorem aSame_ok {t : TypeId} {x y : Operand} {s1 s2 : S} {q : Bool} {a b : Value} (h : aSame P t x y s1 s2 = some q) (ha : cvS ν s1 = some a) (hb : cvS ν s2 = some b) :
    (∀ op w, (eqGuard op t x y a b).run P w = .ok () w) ∧ (∀ w, (Op.equal t a b).run P w = .ok q w) ∧ plainEq a b := by
  unfold aSame at h
  split at h
  case h_11 => cases h
  case h_7 hu =>
    simp only [cvS, Option.some.injEq] at ha hb
    subst ha; subst hb
    cases hc : (Region.isConst x || Region.isConst y) with
    | false => simp [hc] at h
    | true =>
      simp only [hc, cond_true, Option.some.injEq] at h
      subst h
      refine ⟨fun op w => ?_, fun w => equal_run hu (fun hu n w => by simp [Op.equalIn, run_underlying hu]) w, fun op t => by cases op <;> rfl⟩
      unfold eqGuard
      cases x <;> cases y <;> first
        | (simp [Region.isConst] at hc; done)
        | (cases op <;> simp)
  case h_1 hu =>
    simp only [cvS, Option.some.injEq] at ha hb h
    subst ha; subst hb; subst h
    refine ⟨fun op w => ?_, fun w => equal_run hu (fun hu n w => by simp [Op.equalIn, run_underlying hu]) w, fun op t => by cases op <;> rfl⟩
    unfold eqGuard
    cases op <;> simp
  all_goals
    rename_i hu
    simp only [cvS] at ha hb
    simp only [Option.some.injEq] at h
    (try split at ha) <;> (try split at hb) <;> first
      | (cases ha; done)
      | (cases hb; done)
      | (simp only [Option.some.injEq] at ha hb
         subst ha; subst hb; subst h
         refine ⟨fun op w => ?_, fun w => equal_run hu (fun hu n w => by simp [Op.equalIn, run_underlying hu]) w, fun op t => by cases op <;> rfl⟩
         unfold eqGuard
         cases op <;> simp)

theorem aBin_ok {op : BinOp} {t : TypeId} {x y : Operand} {va vb v : V} {a b : Value} (h : aBin P op t x y va vb = some v) (ha : cvV ν va = some a) (hb : cvV ν vb = some b) :
    ∃ u, cvV ν v = some u ∧ ∀ w, (do eqGuard op t x y a b; binOp op t a b : Sem Value).run P w = .ok u w := by
  unfold aBin at h
  split at h
  · rename_i s1 s2
    split at h
    · rename_i k m k' n
      obtain rfl := int_of ha
      obtain rfl := int_of hb
      have key : ∃ s u, v = .w (.s s) ∧ cvS ν s = some u ∧ ∀ w, (binOp op t (.int k m) (.int k' n)).run P w = .ok u w := by
        cases hs : isShift op with
        | true =>
          simp only [hs, cond_true] at h
          cases h1 : aShift op k m n with
          | none => simp [h1] at h
          | some s =>
            simp only [h1, Option.map_some, Option.some.injEq] at h
            obtain ⟨u, hu, hr⟩ := aShift_ok (P := P) (ν := ν) (t := t) (k' := k') h1
            exact ⟨s, u, h.symm, hu, hr⟩
        | false =>
          simp only [hs, cond_false] at h
          rw [kEq_eq] at h
          cases hk : decide (k = k') with
          | false => simp [hk] at h
          | true =>
            simp only [hk, cond_true] at h
            simp only [decide_eq_true_eq] at hk
            subst hk
            cases h1 : aIntOp op k m n with
            | none => simp [h1] at h
            | some s =>
              simp only [h1, Option.map_some, Option.some.injEq] at h
              obtain ⟨u, hu, hr⟩ := aIntOp_ok (P := P) (ν := ν) (t := t) h1
              exact ⟨s, u, h.symm, hu, hr⟩
      obtain ⟨s, u, rfl, hu, hr⟩ := key
      exact ⟨u, hu, fun w => by simp [eqGuard_int, hr w]⟩
    · rename_i l r
      obtain rfl := str_of ha
      obtain rfl := str_of hb
      split at h <;> simp only [Option.some.injEq, reduceCtorEq] at h
      all_goals
        subst h
        exact ⟨_, rfl, fun w => by simp [eqGuard_string, binOp, Op.stringOp, toList_mk]⟩
    · split at h
      · rename_i q hq
        simp only [Option.some.injEq] at h
        subst h
        obtain ⟨h1, h2, h3⟩ := aSame_ok hq ha hb
        exact ⟨_, rfl, fun w => by rw [h3 .eql t]; simp [h1, h2]⟩
      · rename_i q hq
        simp only [Option.some.injEq] at h
        subst h
        obtain ⟨h1, h2, h3⟩ := aSame_ok hq ha hb
        exact ⟨_, rfl, fun w => by rw [h3 .neq t]; simp [h1, h2]⟩
      · cases h
  · cases h

theorem aUn_ok {op : UnOp} {vx v : V} {a : Value} (h : aUn op vx = some v) (ha : cvV ν vx = some a) : ∃ u, cvV ν v = some u ∧ ∀ w, (Op.unary op a).run P w = .ok u w := by
  unfold aUn at h
  split at h
  · obtain rfl := bool_of ha
    simp only [Option.some.injEq] at h
    subst h
    exact ⟨_, rfl, fun w => by simp [Op.unary]⟩
  · obtain rfl := int_of ha
    simp only [Option.some.injEq] at h
    subst h
    exact ⟨_, rfl, fun w => by simp [Op.unary, Op.intArith]⟩
  · obtain rfl := int_of ha
    simp only [Option.some.injEq] at h
    subst h
    exact ⟨_, rfl, fun w => by simp [Op.unary, Op.intBits]⟩
  · cases h

theorem aConv_ok {src dst : TypeId} {vx v : V} {a : Value} (h : aConv P src dst vx = some v) (ha : cvV ν vx = some a) : ∃ u, cvV ν v = some u ∧ ∀ w, (convert src dst a).run P w = .ok u w := by
  unfold aConv at h
  split at h
  · rename_i d k k' n h1 h2
    obtain rfl := int_of ha
    simp only [Option.some.injEq] at h
    subst h
    rw [wrapF_eq]
    exact ⟨_, rfl, fun w => by cases d <;> simp [convert, run_underlying h1, run_underlying h2, Conv.intToInt]⟩
  · rename_i d l h1 h2
    obtain rfl := str_of ha
    simp only [Option.some.injEq] at h
    subst h
    refine ⟨_, rfl, fun w => ?_⟩
    cases d <;> simp [convert, run_underlying h1, run_underlying h2]
  · cases h

theorem aFieldAddr_ok {s : TypeId} {vx v : V} {fi : Nat} {a : Value} (h : aFieldAddr P s vx fi = some v) (ha : cvV ν vx = some a) : ∃ u, cvV ν v = some u ∧ ∀ w, (Instr.fieldAt s a fi).run P w = .ok u w := by
  unfold aFieldAddr at h
  split at h
  · rename_i fs n off hu
    obtain ⟨y, hy, rfl⟩ := ptr_of ha
    cases hf : fs[fi]? with
    | none => simp [hf] at h
    | some f =>
      simp only [hf] at h
      split at h
      · rename_i z hz
        simp only [Option.some.injEq] at h
        subst h
        exact ⟨_, ptr_mk _ hy, fun w => by simp [Instr.fieldAt, run_underlying hu, hf, Instr.sureAddr, fieldPlace, sizeT_run hz, add_addr]⟩
      · cases h
  · cases h

theorem aField_ok {t : TypeId} {vx v : V} {fi : Nat} {a : Value} (h : aField P t vx fi = some v) (ha : cvV ν vx = some a) : ∃ u, cvV ν v = some u ∧ ∀ w, (Instr.field t a fi).run P w = .ok u w := by
  unfold aField at h
  split at h
  · rename_i fs cs hu
    obtain ⟨vs, rfl, hc⟩ := agg_of ha
    cases hf : fs[fi]? with
    | none => simp [hf] at h
    | some f =>
      simp only [hf] at h
      obtain ⟨u, h1, h2⟩ := partT_run h hc
      exact ⟨u, h1, fun w => by simp [Instr.field, run_underlying hu, hf, asAgg, h2]⟩
  · cases h

theorem aIndexAddr_ok {t : TypeId} {vx vi v : V} {a b : Value} (h : aIndexAddr P t vx vi = some v) (ha : cvV ν vx = some a) (hb : cvV ν vi = some b) :
    ∃ u, cvV ν v = some u ∧ ∀ w, (Instr.indexAt t a b).run P w = .ok u w := by
  unfold aIndexAddr at h
  split at h
  · rename_i len elem n off i hu hi
    obtain ⟨y, hy, rfl⟩ := ptr_of ha
    obtain ⟨k, rfl⟩ := vNat_of hi hb
    cases hz : sizeT P elem with
    | none => simp [hz] at h
    | some z =>
      simp only [hz] at h
      cases hl : Nat.blt i len with
      | false => simp [hl] at h
      | true =>
        simp only [hl, cond_true, Option.some.injEq] at h
        subst h
        have hlt : i < len := Nat.le_of_ble_eq_true hl
        exact ⟨_, ptr_mk _ hy, fun w => by simp [Instr.indexAt, asIntOf, run_underlying hu, Instr.sureAddr, hlt, sizeT_run hz, add_addr]⟩
  · rename_i elem n off len c o i hu hi
    obtain ⟨y, hy, rfl⟩ := sl_of ha
    obtain ⟨k, rfl⟩ := vNat_of hi hb
    cases hz : sizeT P elem with
    | none => simp [hz] at h
    | some z =>
      simp only [hz] at h
      cases hl : Nat.blt i len with
      | false => simp [hl] at h
      | true =>
        simp only [hl, cond_true, Option.some.injEq] at h
        subst h
        have hlt : i < len := Nat.le_of_ble_eq_true hl
        exact ⟨_, ptr_mk _ hy, fun w => by simp [Instr.indexAt, asIntOf, run_underlying hu, hlt, sizeT_run hz, add_addr]⟩
  · cases h

theorem aIndex_ok {t : TypeId} {vx vi v : V} {a b : Value} (h : aIndex P t vx vi = some v) (ha : cvV ν vx = some a) (hb : cvV ν vi = some b) :
    ∃ u, cvV ν v = some u ∧ ∀ w, (Instr.index t a b).run P w = .ok u w := by
  unfold aIndex at h
  split at h
  · rename_i len elem cs i hu hi
    obtain ⟨vs, rfl, hc⟩ := agg_of ha
    obtain ⟨k, rfl⟩ := vNat_of hi hb
    cases hz : sizeT P elem with
    | none => simp [hz] at h
    | some z =>
      simp only [hz] at h
      cases hl : Nat.blt i len with
      | false => simp [hl] at h
      | true =>
        simp only [hl, cond_true] at h
        have hlt : i < len := Nat.le_of_ble_eq_true hl
        obtain ⟨u, h1, h2⟩ := partT_run h hc
        exact ⟨u, h1, fun w => by simp [Instr.index, asIntOf, run_underlying hu, hlt, sizeT_run hz, h2]⟩
  · rename_i l i hu hi
    obtain rfl := str_of ha
    obtain ⟨k, rfl⟩ := vNat_of hi hb
    cases hg : l[i]? with
    | none => simp [hg] at h
    | some x =>
      simp only [hg, Option.map_some, Option.some.injEq] at h
      subst h
      refine ⟨_, rfl, fun w => ?_⟩
      have hlt : i < l.length := (List.getElem?_eq_some_iff.1 hg).1
      have hx : l[i] = x := (List.getElem?_eq_some_iff.1 hg).2
      have h1 : (ByteArray.mk l.toArray)[i]? = some x := by
        rw [getElem?_pos _ i (by simpa [ByteArray.size] using hlt)]
        simp [ByteArray.getElem_eq_getElem_data, hx]
      simp [Instr.index, asIntOf, run_underlying hu, h1]
  · cases h

theorem aExtract_ok {vx v : V} {i : Nat} {a : Value} (h : aExtract vx i = some v) (ha : cvV ν vx = some a) : ∃ u, cvV ν v = some u ∧ ∀ w, (Instr.extract a i).run P w = .ok u w := by
  unfold aExtract at h
  split at h
  · rename_i l
    simp only [cvV] at ha
    cases hl : cvWs ν l with
    | none => simp [hl] at ha
    | some vs =>
      simp only [hl, Option.some.injEq] at ha
      subst ha
      have key : ∀ {l : List W} {vs : List Value}, cvWs ν l = some vs → ∀ (i : Nat) (x : W), l[i]? = some x → ∃ u, vs[i]? = some u ∧ cvW ν x = some u := by
        intro l
        induction l with
        | nil => intro vs _ i x hx; simp at hx
        | cons y l ih =>
          intro vs hvs i x hx
          simp only [cvWs] at hvs
          cases h1 : cvW ν y with
          | none => simp [h1] at hvs
          | some u =>
            cases h2 : cvWs ν l with
            | none => simp [h1, h2] at hvs
            | some us =>
              simp only [h1, h2, Option.some.injEq] at hvs
              subst hvs
              cases i with
              | zero => simp only [List.getElem?_cons_zero, Option.some.injEq] at hx; subst hx; exact ⟨u, rfl, h1⟩
              | succ i => simp only [List.getElem?_cons_succ] at hx ⊢; exact ih h2 i x hx
      cases hg : l[i]? with
      | none => simp [hg] at h
      | some x =>
        simp only [hg, Option.map_some, Option.some.injEq] at h
        subst h
        obtain ⟨u, h1, h2⟩ := key hl i x hg
        exact ⟨u, h2, fun w => by simp [Instr.extract, h1]⟩
  · cases h

theorem aNilCheck_ok {vx v : V} {a : Value} (h : aNilCheck vx = some v) (ha : cvV ν vx = some a) (x : Operand) (ρ : Operand → Value) (hx : ρ x = a) (dst : Option Tmp) (t : TypeId) (pos : String) (af : Array Edge) (gd : Option (Nat × Bool)) :
    ∃ u, cvV ν v = some u ∧ ∀ w, (execOp ρ ⟨dst, .nilCheck x, t, pos, af, gd⟩).run P w = .ok (.value u) w := by
  unfold aNilCheck at h
  split at h
  · obtain ⟨y, hy, rfl⟩ := ptr_of ha
    simp only [Option.some.injEq] at h
    subst h
    exact ⟨_, ptr_mk _ hy, fun w => by simp [execOp, hx]⟩
  · obtain ⟨y, hy, rfl⟩ := sl_of ha
    simp only [Option.some.injEq] at h
    subst h
    exact ⟨_, sl_mk _ _ _ _ hy, fun w => by simp [execOp, hx]⟩
  · cases h

theorem aLen_ok {t : TypeId} {ts : Array TypeId} {ty : TypeId} {vx v : V} {a : Value} (h : aLen P t vx = some v) (ha : cvV ν vx = some a) (hts : ts[0]? = some t) : ∃ u, cvV ν v = some u ∧ ∀ w, (Builtin.len_ ts ty #[a]).run P w = .ok u w := by
  unfold aLen at h
  split at h
  · rename_i l hu
    obtain rfl := str_of ha
    simp only [Option.some.injEq] at h
    subst h
    exact ⟨_, rfl, fun w => by simp [Builtin.len_, hts, run_underlying hu, goInt]; rfl⟩
  · rename_i n e hu
    simp only [Option.some.injEq] at h
    subst h
    exact ⟨_, rfl, fun w => by simp [Builtin.len_, hts, run_underlying hu, goInt]⟩
  · rename_i e n off len c o hu
    obtain ⟨y, hy, rfl⟩ := sl_of ha
    simp only [Option.some.injEq] at h
    subst h
    exact ⟨_, rfl, fun w => by simp [Builtin.len_, hts, run_underlying hu, goInt]⟩
  · rename_i e n off d hu
    simp only [Option.some.injEq] at h
    subst h
    refine ⟨_, rfl, fun w => ?_⟩
    simp only [cvV, cvW, cvS] at ha
    cases hn : ν n with
    | none => simp [hn] at ha
    | some y =>
      simp only [hn, Option.some.injEq] at ha
      subst ha
      by_cases hy : y.2 = 0 <;> simp [hy, Builtin.len_, hts, run_underlying hu, goInt]
  · rename_i e hu
    obtain rfl := nsl_of ha
    simp only [Option.some.injEq] at h
    subst h
    exact ⟨_, rfl, fun w => by simp [Builtin.len_, hts, run_underlying hu, goInt]⟩
  · cases h

theorem aCap_ok {t : TypeId} {ts : Array TypeId} {ty : TypeId} {vx v : V} {a : Value} (h : aCap P t vx = some v) (ha : cvV ν vx = some a) (hts : ts[0]? = some t) : ∃ u, cvV ν v = some u ∧ ∀ w, (Builtin.cap_ ts ty #[a]).run P w = .ok u w := by
  unfold aCap at h
  split at h
  · rename_i e n off len c hu
    obtain ⟨y, hy, rfl⟩ := sl_of ha
    simp only [Option.some.injEq] at h
    subst h
    exact ⟨_, rfl, fun w => by simp [Builtin.cap_, hts, run_underlying hu, goInt]⟩
  · rename_i e hu
    obtain rfl := nsl_of ha
    simp only [Option.some.injEq] at h
    subst h
    exact ⟨_, rfl, fun w => by simp [Builtin.cap_, hts, run_underlying hu, goInt]⟩
  · cases h

theorem two_of {x y : V} {vs : List Value} (h : [x, y].map (cvV ν) = vs.map some) : ∃ a b, vs = [a, b] ∧ cvV ν x = some a ∧ cvV ν y = some b := by
  match vs, h with
  | [a, b], h => simp only [List.map_cons, List.map_nil, List.cons.injEq, and_true] at h; exact ⟨a, b, rfl, h.1, h.2⟩
  | [], h => simp at h
  | [_], h => simp at h
  | _ :: _ :: _ :: _, h => simp at h

theorem one_of {x : V} {vs : List Value} (h : [x].map (cvV ν) = vs.map some) : ∃ a, vs = [a] ∧ cvV ν x = some a := by
  match vs, h with
  | [a], h => simp only [List.map_cons, List.map_nil, List.cons.injEq, and_true] at h; exact ⟨a, rfl, h⟩
  | [], h => simp at h
  | _ :: _ :: _, h => simp at h

theorem aMin2_ok {l : List V} {v : V} {vs : Array Value} {ts : Array TypeId} {ty : TypeId} (h : aMin2 l = some v) (hl : l.map (cvV ν) = vs.toList.map some) : ∃ u, cvV ν v = some u ∧ ∀ w, (Builtin.min_ ts ty vs).run P w = .ok u w := by
  unfold aMin2 at h
  split at h
  · obtain ⟨a, b, hvs, ha, hb⟩ := two_of hl
    obtain rfl := int_of ha
    obtain rfl := int_of hb
    simp only [Option.some.injEq] at h
    subst h
    exact ⟨_, rfl, fun w => by simp [Builtin.min_, hvs, Builtin.min2]⟩
  · cases h

theorem aMax2_ok {l : List V} {v : V} {vs : Array Value} {ts : Array TypeId} {ty : TypeId} (h : aMax2 l = some v) (hl : l.map (cvV ν) = vs.toList.map some) : ∃ u, cvV ν v = some u ∧ ∀ w, (Builtin.max_ ts ty vs).run P w = .ok u w := by
  unfold aMax2 at h
  split at h
  · obtain ⟨a, b, hvs, ha, hb⟩ := two_of hl
    obtain rfl := int_of ha
    obtain rfl := int_of hb
    simp only [Option.some.injEq] at h
    subst h
    exact ⟨_, rfl, fun w => by simp [Builtin.max_, hvs, Builtin.max2]⟩
  · cases h

end
end Ai
end Go.Proofs.YtjmhkcfdmcjilaaGreat
