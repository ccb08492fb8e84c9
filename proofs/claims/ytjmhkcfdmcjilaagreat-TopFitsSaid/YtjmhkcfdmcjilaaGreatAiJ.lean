/-
  append in one word; maps; 'mem_ok': all operations upon memory but calls.
-/
import Derived.Test.YtjmhkcfdmcjilaaGreatAiI
namespace Go.Proofs.YtjmhkcfdmcjilaaGreat
namespace Ai
open Go.RowKit
section
variable {P : Program} {B0 : Nat} {W0 : World} {ν : Nu} {h : H} {w : World}

theorem void_of {vS : V} {s : Value} (hv : isVoid vS = true) (hs : cvV ν vS = some s) : ∃ base, s = .slice base 0 0 := by
  unfold isVoid at hv
  split at hv
  · exact ⟨none, nsl_of hs⟩
  · obtain ⟨y, _, rfl⟩ := sl_of hs
    exact ⟨_, rfl⟩
  · cases hv

theorem aClone_ok (g : Ga B0 W0 ν h w) {ts : Array TypeId} {sT xT elem ty : TypeId} {i : TypeInfo} {z vx s : Value} {zs : List S} {vS x v : V} {h' : H} {d : TypeDesc} (h0 : ts[0]? = some sT) (hts : ts[1]? = some xT) (hu : P.underlying sT = some (.slice elem))
    (hd : P.underlying xT = some d) (hi : isIntD d = some false)
    (E : ElemR P ν elem i z zs) (hs : cvV ν vS = some s) (hx : cvV ν x = some vx) (e : aClone h elem i.size i.bytes vS x = some (v, h')) :
    ∃ u ν' w', (Builtin.append_ ts ty #[s, vx]).run P w = .ok u w' ∧ ν.le ν' ∧ Ga B0 W0 ν' h' w' ∧ cvV ν' v = some u := by
  unfold aClone at e
  split at e
  · rename_i b n c o
    obtain ⟨y, hy, rfl⟩ := sl_of hx
    split at e
    · rename_i k r el z' o' hn
      obtain ⟨b1, sl, cur, h1, hB, hlt, h4, h5, h6, h7⟩ := g.row hn
      rw [hy] at h1
      obtain rfl : y = (b1, sl) := Option.some.inj h1
      cases hc : (isVoid vS && !(Nat.beq n 0) && Nat.ble (n * i.size) k && Nat.ble (n * (i.bytes + 1)) 1000000) with
      | false => simp only [hc, cond_false, reduceCtorEq] at e
      | true =>
        simp only [hc, cond_true] at e
        simp only [Bool.and_eq_true, beq_dec, ble_dec, decide_eq_true_eq, Bool.not_eq_true', decide_eq_false_iff_not] at hc
        obtain ⟨⟨⟨c1, c2⟩, c3⟩, c4⟩ := hc
        obtain ⟨base, rfl⟩ := void_of c1 hs
        have hf := fun w (hw : w.heap[b1]? = some (.cells cur el (0, 0))) cap => firstRow (P := P) (w := w) (b := b1) (off := 0) (n := n) (z := i.size) (len := n) (cap := cap) (cur := cur) (el := el) hw (by omega)
        have hN : NewsR P ts i z (.slice (some ⟨b1, 0, none⟩) n (cond o (c + sl) c)) n ((cur.toList.drop 0).take (n * i.size)) w :=
          ⟨by simp; omega, xT, d, hts, hd, .inl ⟨hi, fun w => by simp [Builtin.lenOf], hf w h4 _, hf w.drew h4 _⟩⟩
        have hge := grownCap_ge w (0 + n) 0 elem
        have hold : (Builtin.firstCells i.size 0 (.slice base 0 0)).run P w.drew = .ok ([] : List Value).toArray w.drew := by
          cases base <;> simp [Builtin.firstCells, loadCells, loadCellsFrom]
        have hrun := append_grow (P := P) (w := w) (ty := ty) h0 hu E.info E.zero hN (by simpa using c4) (by omega) hold
        split at e
        · rename_i q m h2 hh
          simp only [Option.some.injEq, Prod.mk.injEq] at e
          obtain ⟨rfl, rfl⟩ := e
          have hrow : RowR ν (n * i.size) r (((cur.toList.drop 0).take (n * i.size)) ++ (Builtin.zeroCells z.cells (grownCap w (0 + n) 0 elem - (0 + n))).toList).toArray := by
            refine ⟨Nat.le_trans c3 h5.1, fun j hj => ?_⟩
            rcases h5.2 j (by omega) with k1 | ⟨u, k1, k2⟩
            · exact .inl k1
            · refine .inr ⟨u, ?_, k2⟩
              rw [List.getElem?_toArray, List.getElem?_append_left (by simp; omega), List.getElem?_take_of_lt hj, List.drop_zero, Array.getElem?_toList]
              exact k1
          obtain ⟨k1, k2⟩ := g.drew.new hh (by simp) (grownCap w (0 + n) 0 elem - (0 + n)) (.cells _ elem) ⟨_, rfl, hrow, by
            have := grown_rest E (grownCap w (0 + n) 0 elem - (0 + n))
            simp at this ⊢
            rw [this]; omega, by simp⟩
          refine ⟨_, _, _, hrun, k1, ?_, ?_⟩
          · have heq : (([] : List Value).toArray ++ ((cur.toList.drop 0).take (n * i.size)).toArray ++ Builtin.zeroCells z.cells (grownCap w (0 + n) 0 elem - (0 + n))) =
                (((cur.toList.drop 0).take (n * i.size)) ++ (Builtin.zeroCells z.cells (grownCap w (0 + n) 0 elem - (0 + n))).toList).toArray := by
              apply Array.ext'; simp
            rw [heq]; exact k2
          · rw [sl_mk (y := (w.drew.heap.size, grownCap w (0 + n) 0 elem - (0 + n))) 0 n n true (by simp [Nu.upd])]
            simp only [cond_true]
            have : n + (grownCap w (0 + n) 0 elem - (0 + n)) = grownCap w (0 + n) 0 elem := by omega
            rw [this, Nat.zero_add]
            rfl
        · cases e
    · cases e
  · cases e

theorem aAppend_ok (g : Ga B0 W0 ν h w) {ts : Array TypeId} {sT ty : TypeId} {s vx : Value} {vS x v : V} {h' : H} (h0 : ts[0]? = some sT) (hs : cvV ν vS = some s) (hx : cvV ν x = some vx) (e : aAppend P h sT (ts[1]?) vS x = some (v, h')) :
    ∃ u ν' w', (Builtin.append_ ts ty #[s, vx]).run P w = .ok u w' ∧ ν.le ν' ∧ Ga B0 W0 ν' h' w' ∧ cvV ν' v = some u := by
  unfold aAppend at e
  split at e
  · rename_i elem hu
    split at e
    · rename_i i zs q hi hzs hq
      cases hc : (Nat.beq zs.length i.size && !(Nat.beq i.size 0)) with
      | false => simp only [hc, cond_false, reduceCtorEq] at e
      | true =>
        simp only [hc, cond_true] at e
        simp only [Bool.and_eq_true, beq_dec, decide_eq_true_eq, Bool.not_eq_true', decide_eq_false_iff_not] at hc
        obtain ⟨i', z, hi', hz, hzc⟩ := zeroC_info hzs
        rw [hi] at hi'
        obtain rfl : i = i' := Option.some.inj hi'
        have hzl : z.cells.size = i.size := by have := cvL_length (hzc ν); simp at this; omega
        have E : ElemR P ν elem i z zs := ⟨hi, hz, hzc, hc.1, hzl, by omega⟩
        split at e
        · rename_i r hr
          simp only [Option.some.injEq] at e
          subst e
          cases q with
          | true => simp at hr
          | false =>
            simp only [cond_false] at hr
            unfold aZeros at hq
            cases hts : ts[1]? with
            | none => simp [hts] at hq
            | some xT =>
              simp only [hts] at hq
              cases hd : P.underlying xT with
              | none => simp [hd] at hq
              | some d =>
                have hi0 : isIntD d = some false := by cases d <;> simp [hd] at hq <;> rfl
                exact aClone_ok g h0 hts hu hd hi0 E hs hx hr
        · split at e
          · rename_i n new hnew
            cases hl : Nat.beq new.length (n * i.size) with
            | false => simp only [hl, cond_false, reduceCtorEq] at e
            | true =>
              simp only [hl, cond_true] at e
              obtain ⟨vs, k1, k2⟩ := aNews_ok (P := P) (ts := ts) g rfl (hzc ν) (Nat.eq_of_beq_eq_true hl) hnew hx
              exact aLay_ok g h0 hu E k2 k1 hs e
          · cases e
    · cases e
  · cases e

/-! ### Maps -/

theorem pureRun_ok {α : Type} : ∀ (s : Sem α) {x : α}, pureRun P s = some x → ∀ w, s.run P w = .ok x w
  | .pure a, x, h, w => by simp only [pureRun, Option.some.injEq] at h; subst h; rfl
  | .program k, x, h, w => by simp only [pureRun] at h; exact pureRun_ok (k P) h w
  | .load .., x, h, w => by simp [pureRun] at h
  | .store .., x, h, w => by simp [pureRun] at h
  | .new .., x, h, w => by simp [pureRun] at h
  | .shape .., x, h, w => by simp [pureRun] at h
  | .freeze .., x, h, w => by simp [pureRun] at h
  | .frozen .., x, h, w => by simp [pureRun] at h
  | .getObj .., x, h, w => by simp [pureRun] at h
  | .setObj .., x, h, w => by simp [pureRun] at h
  | .choose .., x, h, w => by simp [pureRun] at h
  | .sys .., x, h, w => by simp [pureRun] at h
  | .mark .., x, h, w => by simp [pureRun] at h
  | .halt .., x, h, w => by simp [pureRun] at h

theorem valS_cv {x : S} {v : Value} (h : valS x = some v) (ν : Nu) : cvS ν x = some v := by
  cases x <;> simp only [valS, Option.some.injEq, reduceCtorEq] at h <;> subst h <;> rfl

theorem valL_cv : ∀ {l : List S} {vs : List Value}, valL l = some vs → ∀ ν, cvL ν l = some vs
  | [], vs, h, ν => by simp only [valL, Option.some.injEq] at h; subst h; rfl
  | x :: l, vs, h, ν => by
    simp only [valL] at h
    cases h1 : valS x with
    | none => simp [h1] at h
    | some v =>
      cases h2 : valL l with
      | none => simp [h1, h2] at h
      | some us =>
        simp only [h1, h2, Option.some.injEq] at h
        subst h
        exact cvL_mk (valS_cv h1 ν) (valL_cv h2 ν)

theorem valW_cv {x : W} {v : Value} (h : valW x = some v) (ν : Nu) : cvW ν x = some v := by
  cases x with
  | s x => exact valS_cv h ν
  | a l =>
    simp only [valW] at h
    cases h1 : valL l with
    | none => simp [h1] at h
    | some vs =>
      simp only [h1, Option.map_some, Option.some.injEq] at h
      subst h
      simp [cvW, valL_cv h1 ν]

/-- Where a key stands: what the search comes to. -/
def FindR (P : Program) (kt : TypeId) (k : Value) : List MapEntry → Nat → Option (Nat × Value) → Prop
  | [], _, q => q = none
  | e :: es, i, q => ∃ b : Bool, (∀ w, (Op.equal kt k e.key).run P w = .ok b w) ∧ (b = true → q = some (i, e.val)) ∧ (b = false → FindR P kt k es (i + 1) q)

theorem asking_ok {kt : TypeId} {k : Value} : ∀ (es : List MapEntry) (i : Nat) {q} (w : World), FindR P kt k es i q → (Instr.findAsking kt k es i).run P w = .ok q w
  | [], i, q, w, h => by simp only [FindR] at h; subst h; simp [Instr.findAsking]
  | e :: es, i, q, w, h => by
    obtain ⟨b, h1, h2, h3⟩ := h
    simp only [Instr.findAsking, Sem.run_bind, h1 w, Result.andThen_ok]
    cases b with
    | true => rw [h2 rfl]; simp
    | false => simp only [Bool.false_eq_true, if_false]; exact asking_ok es (i + 1) w (h3 rfl)

theorem same_ok {kt : TypeId} {d : TypeDesc} {k k' : Value} {b q : Bool} (hd : P.underlying kt = some d) (h : ∀ w, (Op.equal kt k k').run P w = .ok b w) (hq : Instr.sameNow d k k' = some q) : b = q := by
  unfold Instr.sameNow at hq
  split at hq
  · split at hq
    · rename_i hkk
      subst hkk
      simp only [Option.some.injEq] at hq
      have h3 := h default
      rw [equal_run hd (fun hd n w => by simp [Op.equalIn, run_underlying hd]; rfl)] at h3
      rw [← hq]
      exact (Result.ok.inj h3).1.symm
    · cases hq
  · simp only [Option.some.injEq] at hq
    have h3 := h default
    rw [equal_run hd (fun hd n w => by simp [Op.equalIn, run_underlying hd]; rfl)] at h3
    rw [← hq]
    exact (Result.ok.inj h3).1.symm
  · simp only [Option.some.injEq] at hq
    have h3 := h default
    rw [equal_run hd (fun hd n w => by simp [Op.equalIn, run_underlying hd]; rfl)] at h3
    rw [← hq]
    exact (Result.ok.inj h3).1.symm
  · cases hq

theorem now_ok {kt : TypeId} {d : TypeDesc} {k : Value} (hd : P.underlying kt = some d) : ∀ (es : List MapEntry) (i : Nat) {q r}, FindR P kt k es i q → Instr.findNow d k es i = some r → r = q
  | [], i, q, r, h, e => by simp only [FindR] at h; simp only [Instr.findNow, Option.some.injEq] at e; rw [h, ← e]
  | x :: es, i, q, r, h, e => by
    obtain ⟨b, h1, h2, h3⟩ := h
    simp only [Instr.findNow] at e
    split at e
    · rename_i hs
      simp only [Option.some.injEq] at e
      rw [h2 (same_ok hd h1 hs), ← e]
    · rename_i hs
      exact now_ok hd es (i + 1) (h3 (same_ok hd h1 hs)) e
    · cases e

theorem findKey_ok {kt : TypeId} {d : TypeDesc} {k : Value} (hd : P.underlying kt = some d) {es : List MapEntry} {q} (h : FindR P kt k es 0 q) (w : World) : (Instr.findKey kt k es).run P w = .ok q w := by
  simp only [Instr.findKey, Sem.run_bind, run_underlying hd, Result.andThen_ok]
  cases hn : Instr.findNow d k es 0 with
  | none => exact asking_ok es 0 w h
  | some r => simp [now_ok hd es 0 h hn]

theorem cvE_of {ν : Nu} {e : W × W × Nat} {x : MapEntry} (h : cvE ν e = some x) : ∃ k v, cvW ν e.1 = some k ∧ cvW ν e.2.1 = some v ∧ x = ⟨k, v, e.2.2⟩ := by
  simp only [cvE] at h
  cases h1 : cvW ν e.1 with
  | none => simp [h1] at h
  | some k =>
    cases h2 : cvW ν e.2.1 with
    | none => simp [h1, h2] at h
    | some v => exact ⟨k, v, rfl, rfl, by simpa [h1, h2] using h.symm⟩

/-- What aFind says of entries. -/
theorem aFind_ok {kt : TypeId} {k : Value} : ∀ {es : List (W × W × Nat)} {l : List MapEntry} {r : Option W} (i : Nat), aFind P kt k es = some r → cvEs ν es = some l →
    ∃ q : Option (Nat × Value), FindR P kt k l i q ∧ (r = none → q = none) ∧ ∀ x, r = some x → ∃ j u, q = some (j, u) ∧ cvW ν x = some u
  | [], l, r, i, h, hl => by
    simp only [aFind, Option.some.injEq] at h
    simp only [cvEs, Option.some.injEq] at hl
    subst h; subst hl
    exact ⟨none, rfl, fun _ => rfl, fun x hx => by cases hx⟩
  | (k', v, st) :: es, l, r, i, h, hl => by
    obtain ⟨x, ys, h1, h2, rfl⟩ := cvEs_cons hl
    obtain ⟨kv, vv, h3, h4, rfl⟩ := cvE_of h1
    simp only [aFind] at h
    cases hk : valW k' with
    | none => simp [hk] at h
    | some wk =>
      have hkv : kv = wk := by
        have := valW_cv hk ν
        simp only at h3
        rw [h3] at this
        exact Option.some.inj this
      subst hkv
      simp only [hk] at h
      cases hp : pureRun P (Op.equal kt k kv) with
      | none => simp [hp] at h
      | some b =>
        simp only [hp] at h
        cases b with
        | true =>
          simp only [Option.some.injEq] at h
          subst h
          exact ⟨some (i, vv), ⟨true, pureRun_ok _ hp, fun _ => rfl, fun e => by cases e⟩, fun e => (by cases e), fun x hx => ⟨i, vv, rfl, by rw [← Option.some.inj hx]; exact h4⟩⟩
        | false =>
          obtain ⟨q, k1, k2, k3⟩ := aFind_ok (i + 1) h h2
          exact ⟨q, ⟨false, pureRun_ok _ hp, fun e => (by cases e), fun _ => k1⟩, k2, k3⟩

theorem map_of {n : Nat} {u : Value} (h : cvV ν (.w (.s (.m n))) = some u) : ∃ y, ν n = some y ∧ u = .map (some y.1) := by
  simp only [cvV, cvW, cvS] at h
  cases hn : ν n with
  | none => simp [hn] at h
  | some y => simp only [hn, Option.some.injEq] at h; exact ⟨y, rfl, h.symm⟩

theorem Ga.mapOf (g : Ga B0 W0 ν h w) {n : Nat} {es : List (W × W × Nat)} {c : Nat} (hn : h.get n = .map es c) {y : Nat × Nat} (hy : ν n = some y) : ∃ l, w.heap[y.1]? = some (.map l.toArray c) ∧ cvEs ν es = some l := by
  obtain ⟨y', h1, h2, h3⟩ := g.obj n (by rw [hn]; rfl)
  rw [hy] at h1
  obtain rfl := Option.some.inj h1
  rw [hn] at h3
  exact h3

theorem pair_mk {x y : W} {u v : Value} (hx : cvW ν x = some u) (hy : cvW ν y = some v) : cvV ν (.t [x, y]) = some (.tuple #[u, v]) := by
  simp only [cvV, cvWs, hx, hy]

theorem aLookup_ok (g : Ga B0 W0 ν h w) {xT : TypeId} {vm vk v : V} {m k : Value} {ok : Bool} (e : aLookup P h xT vm vk ok = some v) (hm : cvV ν vm = some m) (hk : cvV ν vk = some k) :
    ∃ u, (Instr.lookup xT m k ok).run P w = .ok u w ∧ cvV ν v = some u := by
  unfold aLookup at e
  split at e
  · rename_i kt elem hu
    have entries : ∀ es, (match vm with
        | .w (.s .nm) => some []
        | .w (.s (.m n)) => match h.get n with
          | .map es _ => some es
          | _ => none
        | _ => none) = some es → ∃ l : List MapEntry, cvEs ν es = some l ∧ ((m = .map none ∧ l = []) ∨ ∃ r c, m = .map (some r) ∧ w.heap[r]? = some (.map l.toArray c)) := fun es he => by
      split at he
      · simp only [Option.some.injEq] at he
        subst he
        exact ⟨[], rfl, .inl ⟨(Option.some.inj hm).symm, rfl⟩⟩
      · rename_i n
        obtain ⟨y, hy, rfl⟩ := map_of hm
        split at he
        · rename_i es' c hn
          simp only [Option.some.injEq] at he
          subst he
          obtain ⟨l, k1, k2⟩ := g.mapOf hn hy
          exact ⟨l, k2, .inr ⟨y.1, c, rfl, k1⟩⟩
        · cases he
      · cases he
    simp only at e
    split at e
    · rename_i es kw hes
      obtain ⟨l, hl, hcase⟩ := entries es hes
      cases hkv : valW kw with
      | none => simp [hkv] at e
      | some kv =>
        have : k = kv := by
          have h1 := valW_cv hkv ν
          have h2 : cvW ν kw = some k := hk
          rw [h2] at h1
          exact Option.some.inj h1
        subst this
        simp only [hkv] at e
        have hemp : es.isEmpty = l.isEmpty := by
          cases es with
          | nil => simp only [cvEs, Option.some.injEq] at hl; subst hl; rfl
          | cons x es => obtain ⟨_, _, _, _, rfl⟩ := cvEs_cons hl; rfl
        cases hd : P.underlying kt with
        | none => simp [hd] at e
        | some d =>
        simp only [hd, Option.isSome_some, cond_true] at e
        cases hc : pureRun P (Instr.checkKey es.isEmpty 10000 kt k) with
        | none => simp [hc] at e
        | some cu =>
          have hck := pureRun_ok _ hc w
          rw [hemp] at hck
          cases hf : aFind P kt k es with
          | none => simp [hc, hf] at e
          | some r =>
            obtain ⟨q, k1, k2, k3⟩ := aFind_ok (P := P) (ν := ν) 0 hf hl
            have hfk := findKey_ok hd k1 w
            have hrun : ∀ u : Value, ((∃ j, q = some (j, u)) ∨ (q = none ∧ (zeroValue elem).run P w = .ok u w)) →
                (Instr.lookup xT m k ok).run P w = .ok (if ok then .tuple #[u, .bool q.isSome] else u) w := fun u hq => by
              rcases hcase with ⟨rfl, rfl⟩ | ⟨r, c, rfl, hr⟩
              · have hck' : (Instr.checkKey true 10000 kt k).run P w = .ok cu w := hck
                have hfk' : (Instr.findKey kt k []).run P w = .ok q w := hfk
                rcases hq with ⟨j, rfl⟩ | ⟨rfl, hz⟩
                · simp [Instr.lookup, run_underlying hu, hck', hfk']
                · simp [Instr.lookup, run_underlying hu, hck', hfk', hz]
              · have hck' : (Instr.checkKey l.isEmpty 10000 kt k).run P w = .ok cu w := hck
                have hg : (getObj r).run P w = .ok (.map l.toArray c) w := by simp [getObj, Sem.run, hr]
                rcases hq with ⟨j, rfl⟩ | ⟨rfl, hz⟩
                · simp [Instr.lookup, run_underlying hu, hg, hck', hfk]
                · simp [Instr.lookup, run_underlying hu, hg, hck', hfk, hz]
            cases r with
            | some x =>
              simp only [hc, hf, Option.some.injEq] at e
              obtain ⟨j, u, rfl, hx⟩ := k3 x rfl
              refine ⟨_, hrun u (.inl ⟨j, rfl⟩), ?_⟩
              subst e
              cases ok with
              | true => simpa using pair_mk hx (show cvW ν (.s (.b true)) = some (.bool true) from rfl)
              | false => simpa [cvV] using hx
            | none =>
              have hq := k2 rfl
              subst hq
              simp only [hc, hf] at e
              split at e
              · rename_i z hz
                simp only [Option.some.injEq] at e
                obtain ⟨zv, z1, z2⟩ := zeroT_run hz
                have hz2 : cvW ν z = some zv := z2 ν
                refine ⟨_, hrun zv (.inr ⟨rfl, z1 w⟩), ?_⟩
                subst e
                cases ok with
                | true => simpa using pair_mk hz2 (show cvW ν (.s (.b false)) = some (.bool false) from rfl)
                | false => simpa [cvV] using hz2
              · cases e
    · cases e
  · cases e

theorem aInsert_ok (g : Ga B0 W0 ν h w) {mT : TypeId} {vm vk : V} {m k : Value} {x : Option W} {y : W} {st : Nat} {h' : H} (e : aInsert P h mT vm vk x = some (y, st, h')) (hm : cvV ν vm = some m) (hk : cvV ν vk = some k) :
    ∃ kt elem r es c d kk, P.underlying mT = some (.map kt elem) ∧ m = .map (some r) ∧ w.heap[r]? = some (.map es c) ∧ P.underlying kt = some d ∧ (Instr.checkKey false 10000 kt k).run P w = .ok kk w ∧
      (Instr.findKey kt k es.toList).run P w = .ok none w ∧ st = c ∧ (x = none → ∃ z, (∀ w, (zeroValue elem).run P w = .ok z w) ∧ cvW ν y = some z) ∧ (∀ v, x = some v → y = v) ∧
      ∀ u, cvW ν y = some u → Ga B0 W0 ν h' { w with heap := w.heap.setIfInBounds r (.map (es.push ⟨k, u, c⟩) (c + 1)) } := by
  unfold aInsert at e
  split at e
  · rename_i kt elem n kw hu
    obtain ⟨y', hy, rfl⟩ := map_of hm
    split at e
    · rename_i es c kv hn hkv
      have : k = kv := by
        have h1 := valW_cv hkv ν
        have h2 : cvW ν kw = some k := hk
        rw [h2] at h1
        exact Option.some.inj h1
      subst this
      obtain ⟨l, hr, hl⟩ := g.mapOf hn hy
      simp only at e
      cases hd : P.underlying kt with
      | none => simp [hd] at e
      | some d =>
        simp only [hd, Option.isSome_some, cond_true] at e
        split at e
        · rename_i v cu hv hc hf
          simp only [Option.some.injEq, Prod.mk.injEq] at e
          obtain ⟨rfl, rfl, rfl⟩ := e
          obtain ⟨q, k1, k2, k3⟩ := aFind_ok (P := P) (ν := ν) 0 hf hl
          have hq := k2 rfl
          subst hq
          refine ⟨kt, elem, y'.1, l.toArray, c, d, cu, hu, rfl, hr, hd, pureRun_ok _ hc w, by simpa using findKey_ok hd k1 w, rfl, fun hx => ?_, fun v' hx => ?_, fun u hu' => ?_⟩
          · subst hx
            simp only at hv
            split at hv
            · rename_i z hz
              simp only [Option.some.injEq] at hv
              obtain ⟨zv, z1, z2⟩ := zeroT_run hz
              exact ⟨zv, z1, by rw [← hv]; exact z2 ν⟩
            · cases hv
          · subst hx
            simp only [Option.some.injEq] at hv
            exact hv.symm
          · have hkc : cvW ν kw = some k := hk
            have := g.setMap (c' := c + 1) hn hy (cvEs_append hl (cvEs_mk (e := (kw, v, c)) (x := ⟨k, u, c⟩) (by simp [cvE, hkc, hu']) (show cvEs ν [] = some [] from rfl)))
            simpa using this
        · cases e
    · cases e
  · cases e

theorem stamp_ok {born : Nat} {v : W} {u : Value} (hu : cvW ν v = some u) : ∀ {es es' : List (W × W × Nat)} {l : List MapEntry}, aStamp born v es = some es' → cvEs ν es = some l →
    ∃ i, l.findIdx? (fun e => (e.born : Int) == (born : Int)) = some i ∧ cvEs ν es' = some (l.modify i fun e => { e with val := u })
  | [], es', l, h, hl => by simp [aStamp] at h
  | (k, x, b) :: es, es', l, h, hl => by
    obtain ⟨y, ys, h1, h2, rfl⟩ := cvEs_cons hl
    obtain ⟨kv, vv, h3, h4, rfl⟩ := cvE_of h1
    simp only at h3 h4
    simp only [aStamp] at h
    by_cases hb : b = born
    · simp only [hb, beq_dec, decide_true, cond_true, Option.some.injEq] at h
      subst h
      refine ⟨0, by rw [List.findIdx?_cons]; simp [hb], ?_⟩
      exact cvEs_mk (by simp [cvE, h3, hu, hb]) h2
    · simp only [hb, beq_dec, decide_false, cond_false] at h
      cases hr : aStamp born v es with
      | none => simp [hr] at h
      | some r =>
        simp only [hr, Option.map_some, Option.some.injEq] at h
        subst h
        obtain ⟨i, k1, k2⟩ := stamp_ok hu hr h2
        have hne : ¬ ((b : Int) = (born : Int)) := by omega
        refine ⟨i + 1, ?_, ?_⟩
        · rw [List.findIdx?_cons]
          simp [hne, k1]
        · simpa using cvEs_mk (by simp [cvE, h3, h4]) k2

theorem aEntryStore_ok (g : Ga B0 W0 ν h w) {mT : TypeId} {vm vs vv : V} {m s v : Value} {h' : H} (e : aEntryStore h vm vs vv = some h') (hm : cvV ν vm = some m) (hs : cvV ν vs = some s) (hv : cvV ν vv = some v) :
    ∃ w', (Instr.entryStore mT m s v).run P w = .ok () w' ∧ Ga B0 W0 ν h' w' := by
  unfold aEntryStore at e
  split at e
  · rename_i n born u hborn
    obtain ⟨y, hy, rfl⟩ := map_of hm
    obtain ⟨k, rfl⟩ := vNat_of hborn hs
    split at e
    · rename_i es c hn
      obtain ⟨l, hr, hl⟩ := g.mapOf hn hy
      split at e
      · rename_i es' hst
        simp only [Option.some.injEq] at e
        subst e
        obtain ⟨i, k1, k2⟩ := stamp_ok (show cvW ν u = some v from hv) hst hl
        refine ⟨_, ?_, g.setMap (c' := c) hn hy k2⟩
        have hg : (getObj y.1).run P w = .ok (.map l.toArray c) w := by simp [getObj, Sem.run, hr]
        have hset : ∀ o, (setObj y.1 o).run P w = .ok () { w with heap := w.heap.setIfInBounds y.1 o } := fun o => by simp [setObj, Sem.run, hr]
        simp only [Instr.entryStore, Sem.run_bind, hg, Result.andThen_ok, asInt, asIntOf, Sem.run_pure]
        have hfi : l.toArray.findIdx? (fun e => (e.born : Int) == (born : Int)) = some i := by simpa using k1
        rw [hfi]
        simp only [hset]
        congr 3
        simp
      · cases e
    · cases e
  · cases e

/-! ### All operations upon memory -/

/-- What an operation comes to: a value, or nothing. -/
def Yd (P : Program) (o : Oper) (a : Act) (w : World) (u : Value) (w' : World) : Prop :=
  (execOp a.eval o).run P w = .ok (.value u) w' ∨ ((execOp a.eval o).run P w = .ok .skip w' ∧ u = undef)

theorem undef_cv : cvV ν undefV = some undef := rfl

theorem two_args {xs : Array Operand} {a : Act} {x y : V} (hl : [x, y].map (cvV ν) = (xs.map a.eval).toList.map some) : ∃ u v, xs.map a.eval = #[u, v] ∧ cvV ν x = some u ∧ cvV ν y = some v := by
  obtain ⟨u, v, h1, h2, h3⟩ := two_of hl
  exact ⟨u, v, by apply Array.ext'; simpa using h1, h2, h3⟩

theorem one_arg {xs : Array Operand} {a : Act} {x : V} (hl : [x].map (cvV ν) = (xs.map a.eval).toList.map some) : ∃ u, xs.map a.eval = #[u] ∧ cvV ν x = some u := by
  obtain ⟨u, h1, h2⟩ := one_of hl
  exact ⟨u, by apply Array.ext'; simpa using h1, h2⟩

theorem mem_ok (g : Ga B0 W0 ν h w) {f : F} {a : Act} (r : FR ν f a.tmps) {o : Oper} {v : V} {h' : H} (e : aMem P f h o.op = some (v, h')) :
    ∃ u ν' w', Yd P o a w u w' ∧ ν.le ν' ∧ Ga B0 W0 ν' h' w' ∧ cvV ν' v = some u := by
  obtain ⟨dst, op, ty, pos, af, gd⟩ := o
  simp only at e
  unfold aMem at e
  split at e
  · rename_i t x
    split at e
    · rename_i va h1
      cases hl : aLoad P h t va with
      | none => simp [hl] at e
      | some u =>
        simp only [hl, Option.map_some, Option.some.injEq, Prod.mk.injEq] at e
        obtain ⟨rfl, rfl⟩ := e
        obtain ⟨u', k1, k2⟩ := load_ok (P := P) g hl (ev_ok r h1)
        exact ⟨u', ν, w, .inl (by simp [execOp, k2]), Nu.le_refl ν, g, k1⟩
    · cases e
  · rename_i t x y
    split at e
    · rename_i va vb h1 h2
      cases hl : aStore P h t va vb with
      | none => simp [hl] at e
      | some hh =>
        simp only [hl, Option.map_some, Option.some.injEq, Prod.mk.injEq] at e
        obtain ⟨rfl, rfl⟩ := e
        obtain ⟨w', k1, k2⟩ := store_ok (P := P) g hl (ev_ok r h1) (ev_ok r h2)
        exact ⟨undef, ν, w', .inr ⟨by simp [execOp, k1], rfl⟩, Nu.le_refl ν, k2, undef_cv⟩
    · cases e
  · rename_i t
    split at e
    · rename_i z hz
      unfold zeroC at hz
      split at hz
      · rename_i x hx
        simp only [Option.some.injEq] at hz
        subst hz
        obtain ⟨zv, z1, z2⟩ := zeroT_run hx
        obtain ⟨p, ν', w', k1, k2, k3, k4⟩ := aNew_ok (P := P) g e (show cvW ν x = some zv from z2 ν)
        exact ⟨_, ν', w', .inl (by simp [execOp, Instr.alloc, z1, k1]), k2, k3, k4⟩
      · cases hz
    · cases e
  · rename_i t x
    split at e
    · rename_i u h1
      obtain ⟨p, ν', w', k1, k2, k3, k4⟩ := aNew_ok (P := P) g e (show cvW ν u = some (a.eval x) from ev_ok r h1)
      exact ⟨_, ν', w', .inl (by simp [execOp, Instr.box, k1]), k2, k3, k4⟩
    · cases e
  · rename_i t l c
    split at e
    · rename_i va vb h1 h2
      obtain ⟨u, ν', w', k1, k2, k3, k4⟩ := aMakeSlice_ok (P := P) g e (ev_ok r h1) (ev_ok r h2)
      exact ⟨u, ν', w', .inl (by simp [execOp, k1]), k2, k3, k4⟩
    · cases e
  · rename_i t len ps
    split at e
    · rename_i l h1
      have h2 := evp_ok r h1
      obtain ⟨u, ν', w', k1, k2, k3, k4⟩ := aBuildSlice_ok (P := P) (ps := ps.map fun (i, x) => (i, a.eval x)) g e (by rw [h2]; simp)
      exact ⟨u, ν', w', .inl (by simp [execOp, k1]), k2, k3, k4⟩
    · cases e
  · rename_i s d x
    split at e
    · rename_i va h1
      cases hl : aBytesString P h s d va with
      | none => simp [hl] at e
      | some u =>
        simp only [hl, Option.map_some, Option.some.injEq, Prod.mk.injEq] at e
        obtain ⟨rfl, rfl⟩ := e
        obtain ⟨u', k1, k2⟩ := aBytesString_ok (P := P) g hl (ev_ok r h1)
        exact ⟨u', ν, w, .inl (by simp [execOp, k1]), Nu.le_refl ν, g, k2⟩
    · cases e
  · rename_i t
    split at e
    · rename_i n hh hn
      simp only [Option.some.injEq, Prod.mk.injEq] at e
      obtain ⟨rfl, rfl⟩ := e
      obtain ⟨k1, k2⟩ := g.new hn (by simp) 0 (.map #[] 0) ⟨[], rfl, rfl⟩
      exact ⟨.map (some w.heap.size), _, _, .inl (by simp [execOp, Instr.makeMap]), k1, k2, by simp [cvV, cvW, cvS, Nu.upd]⟩
    · cases e
  · rename_i t x k ok
    split at e
    · rename_i va vb h1 h2
      cases hl : aLookup P h t va vb ok with
      | none => simp [hl] at e
      | some u =>
        simp only [hl, Option.map_some, Option.some.injEq, Prod.mk.injEq] at e
        obtain ⟨rfl, rfl⟩ := e
        obtain ⟨u', k1, k2⟩ := aLookup_ok (P := P) g hl (ev_ok r h1) (ev_ok r h2)
        exact ⟨u', ν, w, .inl (by simp [execOp, k1]), Nu.le_refl ν, g, k2⟩
    · cases e
  · rename_i t m k x
    split at e
    · rename_i va vb c h1 h2 h3
      cases hl : aInsert P h t va vb (some c) with
      | none => simp [hl] at e
      | some q =>
        obtain ⟨y, st, hh⟩ := q
        simp only [hl, Option.map_some, Option.some.injEq, Prod.mk.injEq] at e
        obtain ⟨rfl, rfl⟩ := e
        obtain ⟨kt, elem, rr, es, cc, d, kk, i1, i2, i3, i4, i5, i6, i7, i8, i9, i10⟩ := aInsert_ok (P := P) g hl (ev_ok r h1) (ev_ok r h2)
        have hy := i9 c rfl
        subst hy
        have hg : (getObj rr).run P w = .ok (.map es cc) w := by simp [getObj, Sem.run, i3]
        have hset : ∀ o, (setObj rr o).run P w = .ok () { w with heap := w.heap.setIfInBounds rr o } := fun o => by simp [setObj, Sem.run, i3]
        exact ⟨undef, ν, _, .inr ⟨by simp [execOp, Instr.mapUpdate, run_underlying i1, i2, hg, i5, i6, hset], rfl⟩, Nu.le_refl ν, i10 _ (show cvW ν y = some (a.eval x) from ev_ok r h3), undef_cv⟩
    · cases e
  · rename_i t m k
    split at e
    · rename_i va vb h1 h2
      cases hl : aInsert P h t va vb none with
      | none => simp [hl] at e
      | some q =>
        obtain ⟨y, st, hh⟩ := q
        simp only [hl, Option.map_some, Option.some.injEq, Prod.mk.injEq] at e
        obtain ⟨rfl, rfl⟩ := e
        obtain ⟨kt, elem, rr, es, cc, d, kk, i1, i2, i3, i4, i5, i6, i7, i8, i9, i10⟩ := aInsert_ok (P := P) g hl (ev_ok r h1) (ev_ok r h2)
        obtain ⟨z, z1, z2⟩ := i8 rfl
        have hg : (getObj rr).run P w = .ok (.map es cc) w := by simp [getObj, Sem.run, i3]
        have hset : ∀ o, (setObj rr o).run P w = .ok () { w with heap := w.heap.setIfInBounds rr o } := fun o => by simp [setObj, Sem.run, i3]
        refine ⟨.tuple #[z, goInt cc], ν, _, .inl (by simp [execOp, Instr.mapEntry, run_underlying i1, i2, hg, i5, i6, hset, z1]), Nu.le_refl ν, i10 _ z2, ?_⟩
        exact pair_mk z2 (by rw [i7]; rfl)
    · cases e
  · rename_i t m s x
    split at e
    · rename_i va vb vc h1 h2 h3
      cases hl : aEntryStore h va vb vc with
      | none => simp [hl] at e
      | some hh =>
        simp only [hl, Option.map_some, Option.some.injEq, Prod.mk.injEq] at e
        obtain ⟨rfl, rfl⟩ := e
        obtain ⟨w', k1, k2⟩ := aEntryStore_ok (P := P) (mT := t) g hl (ev_ok r h1) (ev_ok r h2) (ev_ok r h3)
        exact ⟨undef, ν, w', .inr ⟨by simp [execOp, k1], rfl⟩, Nu.le_refl ν, k2, undef_cv⟩
    · cases e
  · rename_i b args argTypes
    split at e
    · rename_i l t ts h1 h2
      have hargs := args_of r h1
      have hts : argTypes[0]? = some t := by rw [← Array.getElem?_toList, h2]; rfl
      have hts1 : argTypes[1]? = ts.head? := by rw [← Array.getElem?_toList, h2]; cases ts <;> rfl
      split at e
      · rename_i s x
        obtain ⟨u1, u2, k1, k2, k3⟩ := two_args hargs
        obtain ⟨u, ν', w', j1, j2, j3, j4⟩ := aAppend_ok (P := P) (ts := argTypes) (ty := ty) g hts k2 k3 (by rw [hts1]; exact e)
        exact ⟨u, ν', w', .inl (by simp [execOp, resolve, invoke, builtin, k1, j1]), j2, j3, j4⟩
      · rename_i d s
        obtain ⟨u1, u2, k1, k2, k3⟩ := two_args hargs
        obtain ⟨u, w', j1, j2, j3⟩ := aCopy_ok (P := P) (sT := 0) (ty := ty) g e k2 k3 hts
        exact ⟨u, ν, w', .inl (by simp [execOp, resolve, invoke, builtin, k1, j1]), Nu.le_refl ν, j2, j3⟩
      · rename_i d
        obtain ⟨u1, k1, k2⟩ := one_arg hargs
        obtain ⟨u, w', j1, j2, j3⟩ := aClear_ok (P := P) (ty := ty) g e k2 hts
        exact ⟨u, ν, w', .inl (by simp [execOp, resolve, invoke, builtin, k1, j1]), Nu.le_refl ν, j2, j3⟩
      · cases e
    · cases e
  · cases e

end
end Ai
end Go.Proofs.YtjmhkcfdmcjilaaGreat
