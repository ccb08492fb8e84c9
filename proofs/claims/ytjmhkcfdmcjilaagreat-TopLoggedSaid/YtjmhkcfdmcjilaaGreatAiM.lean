/-
  What the reckoner says of a region that draws its order is so, whatever the order.
-/
import Derived.Test.YtjmhkcfdmcjilaaGreatAiI
/- append in one word; maps; 'mem_ok': all operations upon memory but calls. -/
namespace Go.Proofs.YtjmhkcfdmcjilaaGreat
namespace Ai
open Go.RowKit
section
variable {P : Program} {B0 : Nat} {W0 : World} {ν : Nu} {h : H} {w : World}

theorem void_of {vS : V} {s : Value} (hv : isVoid vS = true) (hs : cvV ν vS = some s) : ∃ base, s = .slice base 0 0 := by
  unfold isVoid at hv
  split at hv
  · exact ⟨none, nsl_of hs⟩
  · obtain ⟨y, _, rfl⟩ := sl_of hs
    exact ⟨_, rfl⟩
  · cases hv

theorem aClone_ok (g : Ga B0 W0 ν h w) {ts : Array TypeId} {sT xT elem ty : TypeId} {i : TypeInfo} {z vx s : Value} {zs : List S} {vS x v : V} {h' : H} {d : TypeDesc} (h0 : ts[0]? = some sT) (hts : ts[1]? = some xT) (hu : P.underlying sT = some (.slice elem))
    (hd : P.underlying xT = some d) (hi : isIntD d = some false)
    (E : ElemR P ν elem i z zs) (hs : cvV ν vS = some s) (hx : cvV ν x = some vx) (e : aClone h elem i.size i.bytes vS x = some (v, h')) :
    ∃ u ν' w', (Builtin.append_ ts ty #[s, vx]).run P w = .ok u w' ∧ ν.le ν' ∧ Ga B0 W0 ν' h' w' ∧ cvV ν' v = some u := by
  unfold aClone at e
  split at e
  · rename_i b n c o
    obtain ⟨y, hy, rfl⟩ := sl_of hx
    split at e
    · rename_i k r el z' o' hn
      obtain ⟨b1, sl, cur, h1, hB, hlt, h4, h5, h6, h7⟩ := g.row hn
      rw [hy] at h1
      obtain rfl : y = (b1, sl) := Option.some.inj h1
      cases hc : (isVoid vS && !(Nat.beq n 0) && Nat.ble (n * i.size) k && Nat.ble (n * (i.bytes + 1)) 1000000) with
      | false => simp only [hc, cond_false, reduceCtorEq] at e
      | true =>
        simp only [hc, cond_true] at e
        simp only [Bool.and_eq_true, beq_dec, ble_dec, decide_eq_true_eq, Bool.not_eq_true', decide_eq_false_iff_not] at hc
        obtain ⟨⟨⟨c1, c2⟩, c3⟩, c4⟩ := hc
        obtain ⟨base, rfl⟩ := void_of c1 hs
        have hf := fun w (hw : w.heap[b1]? = some (.cells cur el (0, 0))) cap => firstRow (P := P) (w := w) (b := b1) (off := 0) (n := n) (z := i.size) (len := n) (cap := cap) (cur := cur) (el := el) hw (by omega)
        have hN : NewsR P ts i z (.slice (some ⟨b1, 0, none⟩) n (cond o (c + sl) c)) n ((cur.toList.drop 0).take (n * i.size)) w :=
          ⟨by simp; omega, xT, d, hts, hd, .inl ⟨hi, fun w => by simp [Builtin.lenOf], hf w h4 _, hf w.drew h4 _⟩⟩
        have hge := grownCap_ge w (0 + n) 0 elem
        have hold : (Builtin.firstCells i.size 0 (.slice base 0 0)).run P w.drew = .ok ([] : List Value).toArray w.drew := by
          cases base <;> simp [Builtin.firstCells, loadCells, loadCellsFrom]
        have hrun := append_grow (P := P) (w := w) (ty := ty) h0 hu E.info E.zero hN (by simpa using c4) (by omega) hold
        split at e
        · rename_i q m h2 hh
          simp only [Option.some.injEq, Prod.mk.injEq] at e
          obtain ⟨rfl, rfl⟩ := e
          have hrow : RowR ν (n * i.size) r (((cur.toList.drop 0).take (n * i.size)) ++ (Builtin.zeroCells z.cells (grownCap w (0 + n) 0 elem - (0 + n))).toList).toArray := by
            refine ⟨Nat.le_trans c3 h5.1, fun j hj => ?_⟩
            rcases h5.2 j (by omega) with k1 | ⟨u, k1, k2⟩
            · exact .inl k1
            · refine .inr ⟨u, ?_, k2⟩
              rw [List.getElem?_toArray, List.getElem?_append_left (by simp; omega), List.getElem?_take_of_lt hj, List.drop_zero, Array.getElem?_toList]
              exact k1
          obtain ⟨k1, k2⟩ := g.drew.new hh (by simp) (grownCap w (0 + n) 0 elem - (0 + n)) (.cells _ elem) ⟨_, rfl, hrow, by
            have := grown_rest E (grownCap w (0 + n) 0 elem - (0 + n))
            simp at this ⊢
            rw [this]; omega, by simp⟩
          refine ⟨_, _, _, hrun, k1, ?_, ?_⟩
          · have heq : (([] : List Value).toArray ++ ((cur.toList.drop 0).take (n * i.size)).toArray ++ Builtin.zeroCells z.cells (grownCap w (0 + n) 0 elem - (0 + n))) =
                (((cur.toList.drop 0).take (n * i.size)) ++ (Builtin.zeroCells z.cells (grownCap w (0 + n) 0 elem - (0 + n))).toList).toArray := by
              apply Array.ext'; simp
            rw [heq]; exact k2
          · rw [sl_mk (y := (w.drew.heap.size, grownCap w (0 + n) 0 elem - (0 + n))) 0 n n true (by simp [Nu.upd])]
            simp only [cond_true]
            have : n + (grownCap w (0 + n) 0 elem - (0 + n)) = grownCap w (0 + n) 0 elem := by omega
            rw [this, Nat.zero_add]
            rfl
        · cases e
    · cases e
  · cases e

theorem aAppend_ok (g : Ga B0 W0 ν h w) {ts : Array TypeId} {sT ty : TypeId} {s vx : Value} {vS x v : V} {h' : H} (h0 : ts[0]? = some sT) (hs : cvV ν vS = some s) (hx : cvV ν x = some vx) (e : aAppend P h sT (ts[1]?) vS x = some (v, h')) :
    ∃ u ν' w', (Builtin.append_ ts ty #[s, vx]).run P w = .ok u w' ∧ ν.le ν' ∧ Ga B0 W0 ν' h' w' ∧ cvV ν' v = some u := by
  unfold aAppend at e
  split at e
  · rename_i elem hu
    split at e
    · rename_i i zs q hi hzs hq
      cases hc : (Nat.beq zs.length i.size && !(Nat.beq i.size 0)) with
      | false => simp only [hc, cond_false, reduceCtorEq] at e
      | true =>
        simp only [hc, cond_true] at e
        simp only [Bool.and_eq_true, beq_dec, decide_eq_true_eq, Bool.not_eq_true', decide_eq_false_iff_not] at hc
        obtain ⟨i', z, hi', hz, hzc⟩ := zeroC_info hzs
        rw [hi] at hi'
        obtain rfl : i = i' := Option.some.inj hi'
        have hzl : z.cells.size = i.size := by have := cvL_length (hzc ν); simp at this; omega
        have E : ElemR P ν elem i z zs := ⟨hi, hz, hzc, hc.1, hzl, by omega⟩
        split at e
        · rename_i r hr
          simp only [Option.some.injEq] at e
          subst e
          cases q with
          | true => simp at hr
          | false =>
            simp only [cond_false] at hr
            unfold aZeros at hq
            cases hts : ts[1]? with
            | none => simp [hts] at hq
            | some xT =>
              simp only [hts] at hq
              cases hd : P.underlying xT with
              | none => simp [hd] at hq
              | some d =>
                have hi0 : isIntD d = some false := by cases d <;> simp [hd] at hq <;> rfl
                exact aClone_ok g h0 hts hu hd hi0 E hs hx hr
        · split at e
          · rename_i n new hnew
            cases hl : Nat.beq new.length (n * i.size) with
            | false => simp only [hl, cond_false, reduceCtorEq] at e
            | true =>
              simp only [hl, cond_true] at e
              obtain ⟨vs, k1, k2⟩ := aNews_ok (P := P) (ts := ts) g rfl (hzc ν) (Nat.eq_of_beq_eq_true hl) hnew hx
              exact aLay_ok g h0 hu E k2 k1 hs e
          · cases e
    · cases e
  · cases e

/-! ### Maps -/

theorem pureRun_ok {α : Type} : ∀ (s : Sem α) {x : α}, pureRun P s = some x → ∀ w, s.run P w = .ok x w
  | .pure a, x, h, w => by simp only [pureRun, Option.some.injEq] at h; subst h; rfl
  | .program k, x, h, w => by simp only [pureRun] at h; exact pureRun_ok (k P) h w
  | .load .., x, h, w => by simp [pureRun] at h
  | .store .., x, h, w => by simp [pureRun] at h
  | .new .., x, h, w => by simp [pureRun] at h
  | .shape .., x, h, w => by simp [pureRun] at h
  | .freeze .., x, h, w => by simp [pureRun] at h
  | .frozen .., x, h, w => by simp [pureRun] at h
  | .getObj .., x, h, w => by simp [pureRun] at h
  | .setObj .., x, h, w => by simp [pureRun] at h
  | .choose .., x, h, w => by simp [pureRun] at h
  | .sys .., x, h, w => by simp [pureRun] at h
  | .mark .., x, h, w => by simp [pureRun] at h
  | .halt .., x, h, w => by simp [pureRun] at h

theorem valS_cv {x : S} {v : Value} (h : valS x = some v) (ν : Nu) : cvS ν x = some v := by
  cases x <;> simp only [valS, Option.some.injEq, reduceCtorEq] at h <;> subst h <;> rfl

theorem valL_cv : ∀ {l : List S} {vs : List Value}, valL l = some vs → ∀ ν, cvL ν l = some vs
  | [], vs, h, ν => by simp only [valL, Option.some.injEq] at h; subst h; rfl
  | x :: l, vs, h, ν => by
    simp only [valL] at h
    cases h1 : valS x with
    | none => simp [h1] at h
    | some v =>
      cases h2 : valL l with
      | none => simp [h1, h2] at h
      | some us =>
        simp only [h1, h2, Option.some.injEq] at h
        subst h
        exact cvL_mk (valS_cv h1 ν) (valL_cv h2 ν)

theorem valW_cv {x : W} {v : Value} (h : valW x = some v) (ν : Nu) : cvW ν x = some v := by
  cases x with
  | s x => exact valS_cv h ν
  | a l =>
    simp only [valW] at h
    cases h1 : valL l with
    | none => simp [h1] at h
    | some vs =>
      simp only [h1, Option.map_some, Option.some.injEq] at h
      subst h
      simp [cvW, valL_cv h1 ν]

/-- Where a key stands: what the search comes to. -/
def FindR (P : Program) (kt : TypeId) (k : Value) : List MapEntry → Nat → Option (Nat × Value) → Prop
  | [], _, q => q = none
  | e :: es, i, q => ∃ b : Bool, (∀ w, (Op.equal kt k e.key).run P w = .ok b w) ∧ (b = true → q = some (i, e.val)) ∧ (b = false → FindR P kt k es (i + 1) q)

theorem asking_ok {kt : TypeId} {k : Value} : ∀ (es : List MapEntry) (i : Nat) {q} (w : World), FindR P kt k es i q → (Instr.findAsking kt k es i).run P w = .ok q w
  | [], i, q, w, h => by simp only [FindR] at h; subst h; simp [Instr.findAsking]
  | e :: es, i, q, w, h => by
    obtain ⟨b, h1, h2, h3⟩ := h
    simp only [Instr.findAsking, Sem.run_bind, h1 w, Result.andThen_ok]
    cases b with
    | true => rw [h2 rfl]; simp
    | false => simp only [Bool.false_eq_true, if_false]; exact asking_ok es (i + 1) w (h3 rfl)

theorem same_ok {kt : TypeId} {d : TypeDesc} {k k' : Value} {b q : Bool} (hd : P.underlying kt = some d) (h : ∀ w, (Op.equal kt k k').run P w = .ok b w) (hq : Instr.sameNow d k k' = some q) : b = q := by
  unfold Instr.sameNow at hq
  split at hq
  · split at hq
    · rename_i hkk
      subst hkk
      simp only [Option.some.injEq] at hq
      have h3 := h default
      rw [equal_run hd (fun hd n w => by simp [Op.equalIn, run_underlying hd]; rfl)] at h3
      rw [← hq]
      exact (Result.ok.inj h3).1.symm
    · cases hq
  · simp only [Option.some.injEq] at hq
    have h3 := h default
    rw [equal_run hd (fun hd n w => by simp [Op.equalIn, run_underlying hd]; rfl)] at h3
    rw [← hq]
    exact (Result.ok.inj h3).1.symm
  · simp only [Option.some.injEq] at hq
    have h3 := h default
    rw [equal_run hd (fun hd n w => by simp [Op.equalIn, run_underlying hd]; rfl)] at h3
    rw [← hq]
    exact (Result.ok.inj h3).1.symm
  · cases hq

theorem now_ok {kt : TypeId} {d : TypeDesc} {k : Value} (hd : P.underlying kt = some d) : ∀ (es : List MapEntry) (i : Nat) {q r}, FindR P kt k es i q → Instr.findNow d k es i = some r → r = q
  | [], i, q, r, h, e => by simp only [FindR] at h; simp only [Instr.findNow, Option.some.injEq] at e; rw [h, ← e]
  | x :: es, i, q, r, h, e => by
    obtain ⟨b, h1, h2, h3⟩ := h
    simp only [Instr.findNow] at e
    split at e
    · rename_i hs
      simp only [Option.some.injEq] at e
      rw [h2 (same_ok hd h1 hs), ← e]
    · rename_i hs
      exact now_ok hd es (i + 1) (h3 (same_ok hd h1 hs)) e
    · cases e

theorem findKey_ok {kt : TypeId} {d : TypeDesc} {k : Value} (hd : P.underlying kt = some d) {es : List MapEntry} {q} (h : FindR P kt k es 0 q) (w : World) : (Instr.findKey kt k es).run P w = .ok q w := by
  simp only [Instr.findKey, Sem.run_bind, run_underlying hd, Result.andThen_ok]
  cases hn : Instr.findNow d k es 0 with
  | none => exact asking_ok es 0 w h
  | some r => simp [now_ok hd es 0 h hn]

theorem cvE_of {ν : Nu} {e : W × W × Nat} {x : MapEntry} (h : cvE ν e = some x) : ∃ k v, cvW ν e.1 = some k ∧ cvW ν e.2.1 = some v ∧ x = ⟨k, v, e.2.2⟩ := by
  simp only [cvE] at h
  cases h1 : cvW ν e.1 with
  | none => simp [h1] at h
  | some k =>
    cases h2 : cvW ν e.2.1 with
    | none => simp [h1, h2] at h
    | some v => exact ⟨k, v, rfl, rfl, by simpa [h1, h2] using h.symm⟩

/-- What aFind says of entries. -/
theorem aFind_ok {kt : TypeId} {k : Value} : ∀ {es : List (W × W × Nat)} {l : List MapEntry} {r : Option W} (i : Nat), aFind P kt k es = some r → cvEs ν es = some l →
    ∃ q : Option (Nat × Value), FindR P kt k l i q ∧ (r = none → q = none) ∧ ∀ x, r = some x → ∃ j u, q = some (j, u) ∧ cvW ν x = some u
  | [], l, r, i, h, hl => by
    simp only [aFind, Option.some.injEq] at h
    simp only [cvEs, Option.some.injEq] at hl
    subst h; subst hl
    exact ⟨none, rfl, fun _ => rfl, fun x hx => by cases hx⟩
  | (k', v, st) :: es, l, r, i, h, hl => by
    obtain ⟨x, ys, h1, h2, rfl⟩ := cvEs_cons hl
    obtain ⟨kv, vv, h3, h4, rfl⟩ := cvE_of h1
    simp only [aFind] at h
    cases hk : valW k' with
    | none => simp [hk] at h
    | some wk =>
      have hkv : kv = wk := by
        have := valW_cv hk ν
        simp only at h3
        rw [h3] at this
        exact Option.some.inj this
      subst hkv
      simp only [hk] at h
      cases hp : pureRun P (Op.equal kt k kv) with
      | none => simp [hp] at h
      | some b =>
        simp only [hp] at h
        cases b with
        | true =>
          simp only [Option.some.injEq] at h
          subst h
          exact ⟨some (i, vv), ⟨true, pureRun_ok _ hp, fun _ => rfl, fun e => by cases e⟩, fun e => (by cases e), fun x hx => ⟨i, vv, rfl, by rw [← Option.some.inj hx]; exact h4⟩⟩
        | false =>
          obtain ⟨q, k1, k2, k3⟩ := aFind_ok (i + 1) h h2
          exact ⟨q, ⟨false, pureRun_ok _ hp, fun e => (by cases e), fun _ => k1⟩, k2, k3⟩

theorem map_of {n : Nat} {u : Value} (h : cvV ν (.w (.s (.m n))) = some u) : ∃ y, ν n = some y ∧ u = .map (some y.1) := by
  simp only [cvV, cvW, cvS] at h
  cases hn : ν n with
  | none => simp [hn] at h
  | some y => simp only [hn, Option.some.injEq] at h; exact ⟨y, rfl, h.symm⟩

theorem Ga.mapOf (g : Ga B0 W0 ν h w) {n : Nat} {es : List (W × W × Nat)} {c : Nat} (hn : h.get n = .map es c) {y : Nat × Nat} (hy : ν n = some y) : ∃ l, w.heap[y.1]? = some (.map l.toArray c) ∧ cvEs ν es = some l := by
  obtain ⟨y', h1, h2, h3⟩ := g.obj n (by rw [hn]; rfl)
  rw [hy] at h1
  obtain rfl := Option.some.inj h1
  rw [hn] at h3
  exact h3

theorem pair_mk {x y : W} {u v : Value} (hx : cvW ν x = some u) (hy : cvW ν y = some v) : cvV ν (.t [x, y]) = some (.tuple #[u, v]) := by
  simp only [cvV, cvWs, hx, hy]

theorem aLookup_ok (g : Ga B0 W0 ν h w) {xT : TypeId} {vm vk v : V} {m k : Value} {ok : Bool} (e : aLookup P h xT vm vk ok = some v) (hm : cvV ν vm = some m) (hk : cvV ν vk = some k) :
    ∃ u, (Instr.lookup xT m k ok).run P w = .ok u w ∧ cvV ν v = some u := by
  unfold aLookup at e
  split at e
  · rename_i kt elem hu
    have entries : ∀ es, (match vm with
        | .w (.s .nm) => some []
        | .w (.s (.m n)) => match h.get n with
          | .map es _ => some es
          | _ => none
        | _ => none) = some es → ∃ l : List MapEntry, cvEs ν es = some l ∧ ((m = .map none ∧ l = []) ∨ ∃ r c, m = .map (some r) ∧ w.heap[r]? = some (.map l.toArray c)) := fun es he => by
      split at he
      · simp only [Option.some.injEq] at he
        subst he
        exact ⟨[], rfl, .inl ⟨(Option.some.inj hm).symm, rfl⟩⟩
      · rename_i n
        obtain ⟨y, hy, rfl⟩ := map_of hm
        split at he
        · rename_i es' c hn
          simp only [Option.some.injEq] at he
          subst he
          obtain ⟨l, k1, k2⟩ := g.mapOf hn hy
          exact ⟨l, k2, .inr ⟨y.1, c, rfl, k1⟩⟩
        · cases he
      · cases he
    simp only at e
    split at e
    · rename_i es kw hes
      obtain ⟨l, hl, hcase⟩ := entries es hes
      cases hkv : valW kw with
      | none => simp [hkv] at e
      | some kv =>
        have : k = kv := by
          have h1 := valW_cv hkv ν
          have h2 : cvW ν kw = some k := hk
          rw [h2] at h1
          exact Option.some.inj h1
        subst this
        simp only [hkv] at e
        have hemp : es.isEmpty = l.isEmpty := by
          cases es with
          | nil => simp only [cvEs, Option.some.injEq] at hl; subst hl; rfl
          | cons x es => obtain ⟨_, _, _, _, rfl⟩ := cvEs_cons hl; rfl
        cases hd : P.underlying kt with
        | none => simp [hd] at e
        | some d =>
        simp only [hd, Option.isSome_some, cond_true] at e
        cases hc : pureRun P (Instr.checkKey es.isEmpty 10000 kt k) with
        | none => simp [hc] at e
        | some cu =>
          have hck := pureRun_ok _ hc w
          rw [hemp] at hck
          cases hf : aFind P kt k es with
          | none => simp [hc, hf] at e
          | some r =>
            obtain ⟨q, k1, k2, k3⟩ := aFind_ok (P := P) (ν := ν) 0 hf hl
            have hfk := findKey_ok hd k1 w
            have hrun : ∀ u : Value, ((∃ j, q = some (j, u)) ∨ (q = none ∧ (zeroValue elem).run P w = .ok u w)) →
                (Instr.lookup xT m k ok).run P w = .ok (if ok then .tuple #[u, .bool q.isSome] else u) w := fun u hq => by
              rcases hcase with ⟨rfl, rfl⟩ | ⟨r, c, rfl, hr⟩
              · have hck' : (Instr.checkKey true 10000 kt k).run P w = .ok cu w := hck
                have hfk' : (Instr.findKey kt k []).run P w = .ok q w := hfk
                rcases hq with ⟨j, rfl⟩ | ⟨rfl, hz⟩
                · simp [Instr.lookup, run_underlying hu, hck', hfk']
                · simp [Instr.lookup, run_underlying hu, hck', hfk', hz]
              · have hck' : (Instr.checkKey l.isEmpty 10000 kt k).run P w = .ok cu w := hck
                have hg : (getObj r).run P w = .ok (.map l.toArray c) w := by simp [getObj, Sem.run, hr]
                rcases hq with ⟨j, rfl⟩ | ⟨rfl, hz⟩
                · simp [Instr.lookup, run_underlying hu, hg, hck', hfk]
                · simp [Instr.lookup, run_underlying hu, hg, hck', hfk, hz]
            cases r with
            | some x =>
              simp only [hc, hf, Option.some.injEq] at e
              obtain ⟨j, u, rfl, hx⟩ := k3 x rfl
              refine ⟨_, hrun u (.inl ⟨j, rfl⟩), ?_⟩
              subst e
              cases ok with
              | true => simpa using pair_mk hx (show cvW ν (.s (.b true)) = some (.bool true) from rfl)
              | false => simpa [cvV] using hx
            | none =>
              have hq := k2 rfl
              subst hq
              simp only [hc, hf] at e
              split at e
              · rename_i z hz
                simp only [Option.some.injEq] at e
                obtain ⟨zv, z1, z2⟩ := zeroT_run hz
                have hz2 : cvW ν z = some zv := z2 ν
                refine ⟨_, hrun zv (.inr ⟨rfl, z1 w⟩), ?_⟩
                subst e
                cases ok with
                | true => simpa using pair_mk hz2 (show cvW ν (.s (.b false)) = some (.bool false) from rfl)
                | false => simpa [cvV] using hz2
              · cases e
    · cases e
  · cases e

theorem aInsert_ok (g : Ga B0 W0 ν h w) {mT : TypeId} {vm vk : V} {m k : Value} {x : Option W} {y : W} {st : Nat} {h' : H} (e : aInsert P h mT vm vk x = some (y, st, h')) (hm : cvV ν vm = some m) (hk : cvV ν vk = some k) :
    ∃ kt elem r es c d kk, P.underlying mT = some (.map kt elem) ∧ m = .map (some r) ∧ w.heap[r]? = some (.map es c) ∧ P.underlying kt = some d ∧ (Instr.checkKey false 10000 kt k).run P w = .ok kk w ∧
      (Instr.findKey kt k es.toList).run P w = .ok none w ∧ st = c ∧ (x = none → ∃ z, (∀ w, (zeroValue elem).run P w = .ok z w) ∧ cvW ν y = some z) ∧ (∀ v, x = some v → y = v) ∧
      ∀ u, cvW ν y = some u → Ga B0 W0 ν h' { w with heap := w.heap.setIfInBounds r (.map (es.push ⟨k, u, c⟩) (c + 1)) } := by
  unfold aInsert at e
  split at e
  · rename_i kt elem n kw hu
    obtain ⟨y', hy, rfl⟩ := map_of hm
    split at e
    · rename_i es c kv hn hkv
      have : k = kv := by
        have h1 := valW_cv hkv ν
        have h2 : cvW ν kw = some k := hk
        rw [h2] at h1
        exact Option.some.inj h1
      subst this
      obtain ⟨l, hr, hl⟩ := g.mapOf hn hy
      simp only at e
      cases hd : P.underlying kt with
      | none => simp [hd] at e
      | some d =>
        simp only [hd, Option.isSome_some, cond_true] at e
        split at e
        · rename_i v cu hv hc hf
          simp only [Option.some.injEq, Prod.mk.injEq] at e
          obtain ⟨rfl, rfl, rfl⟩ := e
          obtain ⟨q, k1, k2, k3⟩ := aFind_ok (P := P) (ν := ν) 0 hf hl
          have hq := k2 rfl
          subst hq
          refine ⟨kt, elem, y'.1, l.toArray, c, d, cu, hu, rfl, hr, hd, pureRun_ok _ hc w, by simpa using findKey_ok hd k1 w, rfl, fun hx => ?_, fun v' hx => ?_, fun u hu' => ?_⟩
          · subst hx
            simp only at hv
            split at hv
            · rename_i z hz
              simp only [Option.some.injEq] at hv
              obtain ⟨zv, z1, z2⟩ := zeroT_run hz
              exact ⟨zv, z1, by rw [← hv]; exact z2 ν⟩
            · cases hv
          · subst hx
            simp only [Option.some.injEq] at hv
            exact hv.symm
          · have hkc : cvW ν kw = some k := hk
            have := g.setMap (c' := c + 1) hn hy (cvEs_append hl (cvEs_mk (e := (kw, v, c)) (x := ⟨k, u, c⟩) (by simp [cvE, hkc, hu']) (show cvEs ν [] = some [] from rfl)))
            simpa using this
        · cases e
    · cases e
  · cases e

theorem stamp_ok {born : Nat} {v : W} {u : Value} (hu : cvW ν v = some u) : ∀ {es es' : List (W × W × Nat)} {l : List MapEntry}, aStamp born v es = some es' → cvEs ν es = some l →
    ∃ i, l.findIdx? (fun e => (e.born : Int) == (born : Int)) = some i ∧ cvEs ν es' = some (l.modify i fun e => { e with val := u })
  | [], es', l, h, hl => by simp [aStamp] at h
  | (k, x, b) :: es, es', l, h, hl => by
    obtain ⟨y, ys, h1, h2, rfl⟩ := cvEs_cons hl
    obtain ⟨kv, vv, h3, h4, rfl⟩ := cvE_of h1
    simp only at h3 h4
    simp only [aStamp] at h
    by_cases hb : b = born
    · simp only [hb, beq_dec, decide_true, cond_true, Option.some.injEq] at h
      subst h
      refine ⟨0, by rw [List.findIdx?_cons]; simp [hb], ?_⟩
      exact cvEs_mk (by simp [cvE, h3, hu, hb]) h2
    · simp only [hb, beq_dec, decide_false, cond_false] at h
      cases hr : aStamp born v es with
      | none => simp [hr] at h
      | some r =>
        simp only [hr, Option.map_some, Option.some.injEq] at h
        subst h
        obtain ⟨i, k1, k2⟩ := stamp_ok hu hr h2
        have hne : ¬ ((b : Int) = (born : Int)) := by omega
        refine ⟨i + 1, ?_, ?_⟩
        · rw [List.findIdx?_cons]
          simp [hne, k1]
        · simpa using cvEs_mk (by simp [cvE, h3, h4]) k2

theorem aEntryStore_ok (g : Ga B0 W0 ν h w) {mT : TypeId} {vm vs vv : V} {m s v : Value} {h' : H} (e : aEntryStore h vm vs vv = some h') (hm : cvV ν vm = some m) (hs : cvV ν vs = some s) (hv : cvV ν vv = some v) :
    ∃ w', (Instr.entryStore mT m s v).run P w = .ok () w' ∧ Ga B0 W0 ν h' w' := by
  unfold aEntryStore at e
  split at e
  · rename_i n born u hborn
    obtain ⟨y, hy, rfl⟩ := map_of hm
    obtain ⟨k, rfl⟩ := vNat_of hborn hs
    split at e
    · rename_i es c hn
      obtain ⟨l, hr, hl⟩ := g.mapOf hn hy
      split at e
      · rename_i es' hst
        simp only [Option.some.injEq] at e
        subst e
        obtain ⟨i, k1, k2⟩ := stamp_ok (show cvW ν u = some v from hv) hst hl
        refine ⟨_, ?_, g.setMap (c' := c) hn hy k2⟩
        have hg : (getObj y.1).run P w = .ok (.map l.toArray c) w := by simp [getObj, Sem.run, hr]
        have hset : ∀ o, (setObj y.1 o).run P w = .ok () { w with heap := w.heap.setIfInBounds y.1 o } := fun o => by simp [setObj, Sem.run, hr]
        simp only [Instr.entryStore, Sem.run_bind, hg, Result.andThen_ok, asInt, asIntOf, Sem.run_pure]
        have hfi : l.toArray.findIdx? (fun e => (e.born : Int) == (born : Int)) = some i := by simpa using k1
        rw [hfi]
        simp only [hset]
        congr 3
        simp
      · cases e
    · cases e
  · cases e

/-! ### All operations upon memory -/

/-- What an operation comes to: a value, or nothing. -/
def Yd (P : Program) (o : Oper) (a : Act) (w : World) (u : Value) (w' : World) : Prop :=
  (execOp a.eval o).run P w = .ok (.value u) w' ∨ ((execOp a.eval o).run P w = .ok .skip w' ∧ u = undef)

theorem undef_cv : cvV ν undefV = some undef := rfl

theorem two_args {xs : Array Operand} {a : Act} {x y : V} (hl : [x, y].map (cvV ν) = (xs.map a.eval).toList.map some) : ∃ u v, xs.map a.eval = #[u, v] ∧ cvV ν x = some u ∧ cvV ν y = some v := by
  obtain ⟨u, v, h1, h2, h3⟩ := two_of hl
  exact ⟨u, v, by apply Array.ext'; simpa using h1, h2, h3⟩

theorem one_arg {xs : Array Operand} {a : Act} {x : V} (hl : [x].map (cvV ν) = (xs.map a.eval).toList.map some) : ∃ u, xs.map a.eval = #[u] ∧ cvV ν x = some u := by
  obtain ⟨u, h1, h2⟩ := one_of hl
  exact ⟨u, by apply Array.ext'; simpa using h1, h2⟩

theorem mem_ok (g : Ga B0 W0 ν h w) {f : F} {a : Act} (r : FR ν f a.tmps) {o : Oper} {v : V} {h' : H} (e : aMem P f h o.op = some (v, h')) :
    ∃ u ν' w', Yd P o a w u w' ∧ ν.le ν' ∧ Ga B0 W0 ν' h' w' ∧ cvV ν' v = some u := by
  obtain ⟨dst, op, ty, pos, af, gd⟩ := o
  simp only at e
  unfold aMem at e
  split at e
  · rename_i t x
    split at e
    · rename_i va h1
      cases hl : aLoad P h t va with
      | none => simp [hl] at e
      | some u =>
        simp only [hl, Option.map_some, Option.some.injEq, Prod.mk.injEq] at e
        obtain ⟨rfl, rfl⟩ := e
        obtain ⟨u', k1, k2⟩ := load_ok (P := P) g hl (ev_ok r h1)
        exact ⟨u', ν, w, .inl (by simp [execOp, k2]), Nu.le_refl ν, g, k1⟩
    · cases e
  · rename_i t x y
    split at e
    · rename_i va vb h1 h2
      cases hl : aStore P h t va vb with
      | none => simp [hl] at e
      | some hh =>
        simp only [hl, Option.map_some, Option.some.injEq, Prod.mk.injEq] at e
        obtain ⟨rfl, rfl⟩ := e
        obtain ⟨w', k1, k2⟩ := store_ok (P := P) g hl (ev_ok r h1) (ev_ok r h2)
        exact ⟨undef, ν, w', .inr ⟨by simp [execOp, k1], rfl⟩, Nu.le_refl ν, k2, undef_cv⟩
    · cases e
  · rename_i t
    split at e
    · rename_i z hz
      unfold zeroC at hz
      split at hz
      · rename_i x hx
        simp only [Option.some.injEq] at hz
        subst hz
        obtain ⟨zv, z1, z2⟩ := zeroT_run hx
        obtain ⟨p, ν', w', k1, k2, k3, k4⟩ := aNew_ok (P := P) g e (show cvW ν x = some zv from z2 ν)
        exact ⟨_, ν', w', .inl (by simp [execOp, Instr.alloc, z1, k1]), k2, k3, k4⟩
      · cases hz
    · cases e
  · rename_i t x
    split at e
    · rename_i u h1
      obtain ⟨p, ν', w', k1, k2, k3, k4⟩ := aNew_ok (P := P) g e (show cvW ν u = some (a.eval x) from ev_ok r h1)
      exact ⟨_, ν', w', .inl (by simp [execOp, Instr.box, k1]), k2, k3, k4⟩
    · cases e
  · rename_i t l c
    split at e
    · rename_i va vb h1 h2
      obtain ⟨u, ν', w', k1, k2, k3, k4⟩ := aMakeSlice_ok (P := P) g e (ev_ok r h1) (ev_ok r h2)
      exact ⟨u, ν', w', .inl (by simp [execOp, k1]), k2, k3, k4⟩
    · cases e
  · rename_i t len ps
    split at e
    · rename_i l h1
      have h2 := evp_ok r h1
      obtain ⟨u, ν', w', k1, k2, k3, k4⟩ := aBuildSlice_ok (P := P) (ps := ps.map fun (i, x) => (i, a.eval x)) g e (by rw [h2]; simp)
      exact ⟨u, ν', w', .inl (by simp [execOp, k1]), k2, k3, k4⟩
    · cases e
  · rename_i s d x
    split at e
    · rename_i va h1
      cases hl : aBytesString P h s d va with
      | none => simp [hl] at e
      | some u =>
        simp only [hl, Option.map_some, Option.some.injEq, Prod.mk.injEq] at e
        obtain ⟨rfl, rfl⟩ := e
        obtain ⟨u', k1, k2⟩ := aBytesString_ok (P := P) g hl (ev_ok r h1)
        exact ⟨u', ν, w, .inl (by simp [execOp, k1]), Nu.le_refl ν, g, k2⟩
    · cases e
  · rename_i t
    split at e
    · rename_i n hh hn
      simp only [Option.some.injEq, Prod.mk.injEq] at e
      obtain ⟨rfl, rfl⟩ := e
      obtain ⟨k1, k2⟩ := g.new hn (by simp) 0 (.map #[] 0) ⟨[], rfl, rfl⟩
      exact ⟨.map (some w.heap.size), _, _, .inl (by simp [execOp, Instr.makeMap]), k1, k2, by simp [cvV, cvW, cvS, Nu.upd]⟩
    · cases e
  · rename_i t x k ok
    split at e
    · rename_i va vb h1 h2
      cases hl : aLookup P h t va vb ok with
      | none => simp [hl] at e
      | some u =>
        simp only [hl, Option.map_some, Option.some.injEq, Prod.mk.injEq] at e
        obtain ⟨rfl, rfl⟩ := e
        obtain ⟨u', k1, k2⟩ := aLookup_ok (P := P) g hl (ev_ok r h1) (ev_ok r h2)
        exact ⟨u', ν, w, .inl (by simp [execOp, k1]), Nu.le_refl ν, g, k2⟩
    · cases e
  · rename_i t m k x
    split at e
    · rename_i va vb c h1 h2 h3
      cases hl : aInsert P h t va vb (some c) with
      | none => simp [hl] at e
      | some q =>
        obtain ⟨y, st, hh⟩ := q
        simp only [hl, Option.map_some, Option.some.injEq, Prod.mk.injEq] at e
        obtain ⟨rfl, rfl⟩ := e
        obtain ⟨kt, elem, rr, es, cc, d, kk, i1, i2, i3, i4, i5, i6, i7, i8, i9, i10⟩ := aInsert_ok (P := P) g hl (ev_ok r h1) (ev_ok r h2)
        have hy := i9 c rfl
        subst hy
        have hg : (getObj rr).run P w = .ok (.map es cc) w := by simp [getObj, Sem.run, i3]
        have hset : ∀ o, (setObj rr o).run P w = .ok () { w with heap := w.heap.setIfInBounds rr o } := fun o => by simp [setObj, Sem.run, i3]
        exact ⟨undef, ν, _, .inr ⟨by simp [execOp, Instr.mapUpdate, run_underlying i1, i2, hg, i5, i6, hset], rfl⟩, Nu.le_refl ν, i10 _ (show cvW ν y = some (a.eval x) from ev_ok r h3), undef_cv⟩
    · cases e
  · rename_i t m k
    split at e
    · rename_i va vb h1 h2
      cases hl : aInsert P h t va vb none with
      | none => simp [hl] at e
      | some q =>
        obtain ⟨y, st, hh⟩ := q
        simp only [hl, Option.map_some, Option.some.injEq, Prod.mk.injEq] at e
        obtain ⟨rfl, rfl⟩ := e
        obtain ⟨kt, elem, rr, es, cc, d, kk, i1, i2, i3, i4, i5, i6, i7, i8, i9, i10⟩ := aInsert_ok (P := P) g hl (ev_ok r h1) (ev_ok r h2)
        obtain ⟨z, z1, z2⟩ := i8 rfl
        have hg : (getObj rr).run P w = .ok (.map es cc) w := by simp [getObj, Sem.run, i3]
        have hset : ∀ o, (setObj rr o).run P w = .ok () { w with heap := w.heap.setIfInBounds rr o } := fun o => by simp [setObj, Sem.run, i3]
        refine ⟨.tuple #[z, goInt cc], ν, _, .inl (by simp [execOp, Instr.mapEntry, run_underlying i1, i2, hg, i5, i6, hset, z1]), Nu.le_refl ν, i10 _ z2, ?_⟩
        exact pair_mk z2 (by rw [i7]; rfl)
    · cases e
  · rename_i t m s x
    split at e
    · rename_i va vb vc h1 h2 h3
      cases hl : aEntryStore h va vb vc with
      | none => simp [hl] at e
      | some hh =>
        simp only [hl, Option.map_some, Option.some.injEq, Prod.mk.injEq] at e
        obtain ⟨rfl, rfl⟩ := e
        obtain ⟨w', k1, k2⟩ := aEntryStore_ok (P := P) (mT := t) g hl (ev_ok r h1) (ev_ok r h2) (ev_ok r h3)
        exact ⟨undef, ν, w', .inr ⟨by simp [execOp, k1], rfl⟩, Nu.le_refl ν, k2, undef_cv⟩
    · cases e
  · rename_i b args argTypes
    split at e
    · rename_i l t ts h1 h2
      have hargs := args_of r h1
      have hts : argTypes[0]? = some t := by rw [← Array.getElem?_toList, h2]; rfl
      have hts1 : argTypes[1]? = ts.head? := by rw [← Array.getElem?_toList, h2]; cases ts <;> rfl
      split at e
      · rename_i s x
        obtain ⟨u1, u2, k1, k2, k3⟩ := two_args hargs
        obtain ⟨u, ν', w', j1, j2, j3, j4⟩ := aAppend_ok (P := P) (ts := argTypes) (ty := ty) g hts k2 k3 (by rw [hts1]; exact e)
        exact ⟨u, ν', w', .inl (by simp [execOp, resolve, invoke, builtin, k1, j1]), j2, j3, j4⟩
      · rename_i d s
        obtain ⟨u1, u2, k1, k2, k3⟩ := two_args hargs
        obtain ⟨u, w', j1, j2, j3⟩ := aCopy_ok (P := P) (sT := 0) (ty := ty) g e k2 k3 hts
        exact ⟨u, ν, w', .inl (by simp [execOp, resolve, invoke, builtin, k1, j1]), Nu.le_refl ν, j2, j3⟩
      · rename_i d
        obtain ⟨u1, k1, k2⟩ := one_arg hargs
        obtain ⟨u, w', j1, j2, j3⟩ := aClear_ok (P := P) (ty := ty) g e k2 hts
        exact ⟨u, ν, w', .inl (by simp [execOp, resolve, invoke, builtin, k1, j1]), Nu.le_refl ν, j2, j3⟩
      · cases e
    · cases e
  · cases e

end
end Ai
end Go.Proofs.YtjmhkcfdmcjilaaGreat
/- Regions that draw their order: what may be taken ahead of others is taken ahead; the rest comes up in one order. -/
/- Calls, whatever operation comes up, regions in their written order. -/
namespace Go.Proofs.YtjmhkcfdmcjilaaGreat
namespace Ai
open Go.RowKit
section
variable {P : Program} {B0 : Nat} {W0 : World} {ν : Nu} {h : H} {w : World}

/-- A call ends in a value, and in a world, of which R is so. -/
def CallR (P : Program) (g : FuncId) (vs : Array Value) (w : World) (R : Value → World → Prop) : Prop :=
  (∃ u w', (callFunc g vs).run P w = .ok (.value u) w' ∧ R u w') ∨
  ((callFunc g vs).run P w = .ok (.enter g vs) w ∧ Calls P g vs w (fun e w' => ∃ u, e = .returned u ∧ R u w'))

def ArgsR (ν : Nu) (l : List V) (vs : Array Value) : Prop := l.map (cvV ν) = vs.toList.map some

/-- What a call comes to, is so. -/
def SoundCall (P : Program) (B0 : Nat) (W0 : World) (g : FuncId) (args : List V) (h : H) (v : V) (h' : H) : Prop :=
  ∀ ν w vs, Ga B0 W0 ν h w → ArgsR ν args vs → CallR P g vs w (fun u w' => ∃ ν', ν.le ν' ∧ Ga B0 W0 ν' h' w' ∧ cvV ν' v = some u)

theorem cvCs_args : ∀ {cs : List C} {l : List Value}, cvCs ν cs = some l → (cs.map cV).map (cvV ν) = l.map some
  | [], l, e => by simp only [cvCs, Option.some.injEq] at e; subst e; rfl
  | c :: cs, l, e => by
    simp only [cvCs] at e
    cases h1 : cvC ν c with
    | none => simp [h1] at e
    | some v =>
      cases h2 : cvCs ν cs with
      | none => simp [h1, h2] at e
      | some us =>
        simp only [h1, h2, Option.some.injEq] at e
        subst e
        simp only [List.map_cons, cvCs_args h2, List.cons.injEq, and_true]
        cases c with
        | p n off => simpa [cV, cvV, cvW, cvS, cvC] using h1
        | i k x => simpa [cV, cvV, cvW, cvS, cvC] using h1

theorem aTarget_ok {f : F} {a : Act} (r : FR ν f a.tmps) {c : Call} {g : FuncId} {args : List V} (e : aTarget P f c = some (g, args)) (dst : Option Tmp) (ty : TypeId) (pos : String) (af : Array Edge) (gd : Option (Nat × Bool)) :
    ∃ vs, ArgsR ν args vs ∧ ∀ w, (execOp a.eval ⟨dst, .call c, ty, pos, af, gd⟩).run P w = (callFunc g vs).run P w := by
  obtain ⟨callee, xs, ats⟩ := c
  unfold aTarget at e
  simp only at e
  split at e
  · rename_i x l hl
    split at e
    · rename_i g' cs hx
      simp only [Option.some.injEq, Prod.mk.injEq] at e
      obtain ⟨rfl, rfl⟩ := e
      have h1 := ev_ok r hx
      simp only [cvV, cvW, cvS] at h1
      cases hcs : cvCs ν cs with
      | none => simp [hcs] at h1
      | some us =>
        simp only [hcs, Option.some.injEq] at h1
        refine ⟨xs.map a.eval ++ us.toArray, ?_, fun w => ?_⟩
        · unfold ArgsR
          rw [List.map_append, args_of r hl, cvCs_args hcs]
          simp
        · simp [execOp, resolve, ← h1, Deferred.ofValue, invoke]
    · cases e
  · rename_i x name l hl
    split at e
    · rename_i t n off hx
      split at e
      · rename_i i elem hi hu
        split at e
        · rename_i m hm
          split at e
          · rename_i g' hp hf
            simp only [Option.some.injEq, Prod.mk.injEq] at e
            obtain ⟨rfl, rfl⟩ := e
            have h1 := ev_ok r hx
            simp only [cvV, cvW, cvS, cvC] at h1
            cases hn : ν n with
            | none => simp [hn] at h1
            | some y =>
              simp only [hn, Option.some.injEq] at h1
              refine ⟨#[.pointer (some ⟨y.1, off, none⟩)] ++ xs.map a.eval, ?_, fun w => ?_⟩
              · unfold ArgsR
                rw [List.map_cons, args_of r hl]
                simp [ptr_mk off hn]
              · show (do let d ← resolve a.eval ⟨.invoke x name, xs, ats⟩ ty; invoke d.target d.args : Sem Next).run P w = _
                simp only [resolve, ← h1, Sem.run_bind, Sem.run_pure, Result.andThen_ok, invoke]
                have hmeth : (method ((P.types.size + Made.depth - 1) + 1) t (.pointer (some ⟨y.1, off, none⟩)) name).run P w = .ok (g', .pointer (some ⟨y.1, off, none⟩)) w := by
                  have hpath : m.path = #[] := by apply Array.ext'; simpa using hp
                  simp [method, typeInfo, hi, hm, hp, hf, follow, receiverAt, run_underlying hu, Place.get]
                have hdep : P.types.size + Made.depth - 1 + 1 = P.types.size + Made.depth := by have : 0 < Made.depth := by decide
                                                                                                omega
                rw [hdep] at hmeth
                generalize xs.map a.eval = ys
                have h0 : (#[Value.iface t (.pointer (some ⟨y.1, off, none⟩))] ++ ys)[0]? = some (Value.iface t (.pointer (some ⟨y.1, off, none⟩))) := by
                  rw [Array.getElem?_append_left (by simp)]; rfl
                have h3 : (#[Value.iface t (.pointer (some ⟨y.1, off, none⟩))] ++ ys).extract 1 (#[Value.iface t (.pointer (some ⟨y.1, off, none⟩))] ++ ys).size = ys := by
                  apply Array.ext'
                  simp
                rw [h0, h3]
                simp only [callMethod, Sem.run_bind, run_program, Result.andThen_ok, hmeth]
          · cases e
        · cases e
      · cases e
    · cases e
  · cases e

/-- Whatever operation comes up. -/
theorem oper_ok {ih : Task → F → H → Option Res} (ihc : ∀ g args f h res, ih (.call g args) f h = some res → SoundCall P B0 W0 g args h res.v res.h) (g : Ga B0 W0 ν h w) {f : F} {a : Act} (r : FR ν f a.tmps) {o : Oper} {v : V} {h' : H}
    (e : aOper P ih f h o.op = some (v, h')) {next : Act → World → Prop} {Q : Exit → Act → World → Prop}
    (hnext : ∀ u ν' w', ν.le ν' → Ga B0 W0 ν' h' w' → cvV ν' v = some u → next (a.put o.dst u) w') : o.wp P a w next Q := by
  unfold Oper.wp
  unfold aOper at e
  split at e
  · rename_i v' hp
    simp only [Option.some.injEq, Prod.mk.injEq] at e
    obtain ⟨rfl, rfl⟩ := e
    obtain ⟨u, hu, hr⟩ := pure_ok (P := P) r hp
    rw [hr w]
    exact hnext u ν w (Nu.le_refl ν) g hu
  · split at e
    · rename_i q hm
      simp only [Option.some.injEq] at e
      subst e
      obtain ⟨u, ν', w', hy, k2, k3, k4⟩ := mem_ok (P := P) g r hm
      rcases hy with hy | ⟨hy, rfl⟩
      · rw [hy]; exact hnext u ν' w' k2 k3 k4
      · rw [hy]; exact hnext _ ν' w' k2 k3 k4
    · obtain ⟨dst, op, ty, pos, af, gd⟩ := o
      simp only at e
      split at e
      · rename_i c
        split at e
        · rename_i g' args ht
          cases hi : ih (.call g' args) f h with
          | none => simp [hi] at e
          | some res =>
            simp only [hi, Option.map_some, Option.some.injEq, Prod.mk.injEq] at e
            obtain ⟨rfl, rfl⟩ := e
            obtain ⟨vs, k1, k2⟩ := aTarget_ok (P := P) r ht dst ty pos af gd
            rw [k2 w]
            rcases ihc g' args f h res hi ν w vs g k1 with ⟨u, w', j1, ν', j2, j3, j4⟩ | ⟨j1, j2⟩
            · rw [j1]; exact hnext u ν' w' j2 j3 j4
            · rw [j1]
              show Calls P g' vs w _
              refine j2.mono fun e w' ⟨u, he, ν', i1, i2, i3⟩ => ?_
              subst he
              exact hnext u ν' w' i1 i2 i3
        · cases e
      · cases e

theorem bool_same {x : V} {v : Value} (hv : cvV ν x = some v) (want : Bool) :
    ((match (some v : Option Value) with | some (.bool b) => some b | _ => none) == some want) = vIs want x := by
  cases x with
  | t l =>
    simp only [cvV] at hv
    split at hv
    · simp only [Option.some.injEq] at hv; subst hv; rfl
    · cases hv
  | w y =>
    cases y with
    | a l =>
      simp only [cvV, cvW] at hv
      split at hv
      · simp only [Option.some.injEq] at hv; subst hv; rfl
      · cases hv
    | s s =>
      simp only [cvV, cvW] at hv
      cases s with
      | b x => simp only [cvS, Option.some.injEq] at hv; subst hv; simp [vIs]
      | se n off d =>
        simp only [cvS] at hv
        split at hv
        · rename_i y _
          simp only [Option.some.injEq] at hv
          subst hv
          by_cases hy : y.2 = 0 <;> simp only [hy, if_true, if_false] <;> rfl
        · cases hv
      | _ =>
        simp only [cvS] at hv
        first
          | (simp only [Option.some.injEq] at hv; subst hv; rfl)
          | (split at hv
             · simp only [Option.some.injEq] at hv; subst hv; rfl
             · cases hv)
          | (cases hv; done)

theorem wanted_ok {f : F} {a : Act} (r : FR ν f a.tmps) (ops : Array Oper) (o : Oper) : Region.wanted o (yielded ops a.tmps) = aWanted f ops o := by
  unfold Region.wanted aWanted
  cases hg : o.guard with
  | none => rfl
  | some gw =>
    obtain ⟨j, want⟩ := gw
    simp only [yielded]
    cases hd : (ops[j]?).bind (·.dst) with
    | none => simp
    | some d =>
      simp only [Option.bind_some]
      have h1 := r.2 d
      cases hlt : Nat.blt d f.n with
      | false =>
        have h2 : ¬ d < a.tmps.size := by
          rw [r.1]; intro hh
          have : Nat.blt d f.n = true := Nat.ble_eq_true_of_le hh
          rw [this] at hlt; cases hlt
        rw [Array.getElem?_eq_none (Nat.not_lt.1 h2)]
        simp only [cond_false]
        rfl
      | true =>
        have h2 : d < a.tmps.size := by rw [r.1]; exact Nat.le_of_ble_eq_true hlt
        rw [Array.getElem?_eq_getElem h2]
        have h3 : a.tmps.getD d undef = a.tmps[d] := by simp [h2]
        rw [h3] at h1
        simp only [cond_true]
        exact bool_same h1 want

/-- The frame, the memory, no deferred calls. -/
structure St (B0 : Nat) (W0 : World) (ν : Nu) (f : F) (h : H) (a : Act) (w : World) : Prop where
  ga : Ga B0 W0 ν h w
  fr : FR ν f a.tmps
  df : a.defers = []

theorem put_defers (a : Act) (dst : Option Tmp) (v : Value) : (a.put dst v).defers = a.defers := by cases dst <;> rfl

theorem ops_ok {ih : Task → F → H → Option Res} (ihc : ∀ g args f h res, ih (.call g args) f h = some res → SoundCall P B0 W0 g args h res.v res.h) (ops : Array Oper) {f' : F} {h' : H} {Q : Exit → Act → World → Prop} :
    ∀ (l : List Oper) {ν : Nu} {f : F} {h : H} {a : Act} {w : World}, St B0 W0 ν f h a w → aOps P ih ops l f h = some (f', h') → (∀ ν' a' w', ν.le ν' → St B0 W0 ν' f' h' a' w' → Q .normal a' w') → wpList P ops Q l a w
  | [], ν, f, h, a, w, s, e, hQ => by
    simp only [aOps, Option.some.injEq, Prod.mk.injEq] at e
    obtain ⟨rfl, rfl⟩ := e
    exact hQ ν a w (Nu.le_refl ν) s
  | o :: rest, ν, f, h, a, w, s, e, hQ => by
    simp only [wpList]
    rw [wanted_ok s.fr ops o]
    simp only [aOps] at e
    cases hw : aWanted f ops o with
    | true =>
      simp only [hw, cond_true] at e
      simp only [if_true]
      split at e
      · rename_i v h1 ho
        split at e
        · rename_i f1 hf
          refine .inl (oper_ok ihc s.ga s.fr ho fun u ν' w' k1 k2 k3 => ?_)
          exact ops_ok ihc ops rest ⟨k2, put_ok (s.fr.mono k1) hf k3, by rw [put_defers]; exact s.df⟩ e fun ν2 a2 w2 j1 j2 => hQ ν2 a2 w2 (Nu.le_trans k1 j1) j2
        · cases e
      · cases e
    | false =>
      simp only [hw, cond_false] at e
      simp only [Bool.false_eq_true, if_false]
      split at e
      · rename_i f1 hf
        exact ops_ok ihc ops rest ⟨s.ga, put_ok s.fr hf undef_cv, by rw [put_defers]; exact s.df⟩ e hQ
      · cases e

end
end Ai
end Go.Proofs.YtjmhkcfdmcjilaaGreat
namespace Go.Proofs.YtjmhkcfdmcjilaaGreat
namespace Ai
open Go.RowKit
section
variable {P : Program} {ops : Array Oper} {Q : Exit → Act → World → Prop}

/-- Whatever order, and at each moment I is so. -/
def wpAnyI (P : Program) (ops : Array Oper) (Q : Exit → Act → World → Prop) (I : Array Bool → World → Prop) : Nat → Array Bool → Act → World → Prop
  | 0, listed, a, w => I listed w ∧ Region.ready .any ops listed = [] ∧ Q .normal a w
  | n + 1, listed, a, w => I listed w ∧ (Region.ready .any ops listed = [] → Q .normal a w) ∧
    ∀ i ∈ Region.ready .any ops listed, wpOp P ops Q i (wpAnyI P ops Q I n (listed.setIfInBounds i true)) a w

theorem wpAnyI_any {I : Array Bool → World → Prop} : ∀ (n : Nat) {listed : Array Bool} {a : Act} {w : World}, wpAnyI P ops Q I n listed a w → wpAny P .any ops Q n listed a w
  | 0, _, _, _, h => h.2
  | n + 1, _, _, _, h => ⟨h.2.1, fun i hi => wpOp_mono (fun _ _ => wpAnyI_any n) (h.2.2 i hi)⟩

theorem wpAnyI_inv {I : Array Bool → World → Prop} : ∀ (n : Nat) {listed : Array Bool} {a : Act} {w : World}, wpAnyI P ops Q I n listed a w → I listed w
  | 0, _, _, _, h => h.1
  | _ + 1, _, _, _, h => h.1

/-- I turned, on sets that hold some. -/
theorem wpAnyI_mono {I I' : Array Bool → World → Prop} {K : Array Bool → Prop} (hK : ∀ l i, K l → K (l.setIfInBounds i true)) (h : ∀ l w, K l → I l w → I' l w) :
    ∀ (n : Nat) {listed : Array Bool} {a : Act} {w : World}, K listed → wpAnyI P ops Q I n listed a w → wpAnyI P ops Q I' n listed a w
  | 0, _, _, _, k, x => ⟨h _ _ k x.1, x.2⟩
  | n + 1, _, _, _, k, x => ⟨h _ _ k x.1, x.2.1, fun i hi => wpOp_mono (fun _ _ => wpAnyI_mono hK h n (hK _ _ k)) (x.2.2 i hi)⟩

theorem wpOp_put' {i j : Nat} {oi oj : Oper} {v : Value} {Y : Act → Prop} (hj : ops[j]? = some oj) (hap : oi.apart ops oj = true)
    (hsj : ∀ cs b, oj.op ≠ .select cs b)
    (hQ : ∀ c a w, ¬ Q (.panic c) a w) {K : Act → World → Prop} {a : Act} {w : World}
    (keep : ∀ a u, Y a → Y (a.put oj.dst u)) (keepD : ∀ a d, Y a → Y { a with defers := d :: a.defers })
    (hy : Y a) (h : wpOp P ops Q j K (a.put oi.dst v) w) :
    wpOp P ops Q j (fun a' w' => Y a' ∧ K (a'.put oi.dst v) w') a w := by
  have _ := i
  obtain ⟨h1, h2, h3⟩ := Oper.apart_spec hap
  unfold wpOp at *
  simp only [hj] at *
  rw [wanted_put oj a oi.dst v h1] at h
  split
  · rename_i hw
    simp only [hw, if_true] at h
    rcases h with h | ⟨hasks, hlets⟩
    case inr => exact .inr ⟨by unfold Oper.asks at *; rw [execOp_put oj hsj a oi.dst v h1] at hasks; exact hasks, hlets⟩
    refine .inl ?_
    unfold Oper.wp at *
    rw [execOp_put oj hsj a oi.dst v h1] at h
    generalize (execOp a.eval oj).run P w = r at *
    cases r with
    | ok n w' =>
      cases n <;> simp only [Oper.upon] at h ⊢
      case value u => exact ⟨keep a u hy, by rw [← Act.put_comm a v u h2]; exact h⟩
      case skip => exact ⟨keep a _ hy, by rw [← Act.put_comm a v undef h2]; exact h⟩
      case defer d =>
        refine ⟨keep _ _ (keepD a d hy), ?_⟩
        rw [← Act.put_comm _ v undef h2, ← Act.put_defers]
        exact h
      case enter f args =>
        refine Calls.mono h fun e w'' he => ?_
        cases e with
        | returned u => exact ⟨keep a u hy, by rw [← Act.put_comm a v u h2]; exact he⟩
        | panicked c => exact absurd he (hQ _ _ _)
        | outgrown => exact he
      case row row args => exact Rows.mono h fun u w'' he => ⟨keep a u hy, by rw [← Act.put_comm a v u h2]; exact he⟩
    | halt x w' =>
      cases x <;> simp only [Oper.upon] at h ⊢
      case panic u => exact absurd h (hQ _ _ _)
  · rename_i hw
    simp only [hw] at h
    exact ⟨keep a _ hy, by rw [← Act.put_comm a v undef h2]; exact h⟩

/-- What an operation yields, in all worlds of which J is so. -/
def YieldsJ (P : Program) (ops : Array Oper) (J : World → Prop) (o : Oper) (v : Value) (a : Act) : Prop :=
  (Region.wanted o (yielded ops a.tmps) = true ∧ ∀ w, J w → (execOp a.eval o).run P w = .ok (.value v) w) ∨ (Region.wanted o (yielded ops a.tmps) = false ∧ v = undef)

theorem YieldsJ.wpOp {J : World → Prop} {i : Nat} {o : Oper} {v : Value} {a : Act} (hi : ops[i]? = some o) (hy : YieldsJ P ops J o v a) {K : Act → World → Prop} {w : World} (hw : J w) (h : K (a.put o.dst v) w) : wpOp P ops Q i K a w := by
  unfold Go.wpOp
  simp only [hi]
  rcases hy with ⟨h1, h2⟩ | ⟨h1, rfl⟩
  · simp only [h1, if_true, Oper.wp, h2 w hw, Oper.upon]; exact .inl h
  · simp only [h1, Bool.false_eq_true, if_false]; exact h

theorem YieldsJ.put {J : World → Prop} {o oj : Oper} {v : Value} {a : Act} (hsi : ∀ cs b, o.op ≠ .select cs b) (h3 : ∀ d, oj.dst = some d → d ∉ o.looksAt ops) (hy : YieldsJ P ops J o v a) (u : Value) : YieldsJ P ops J o v (a.put oj.dst u) := by
  unfold YieldsJ at *
  rw [execOp_put o hsi a oj.dst u h3, wanted_put o a oj.dst u h3]
  exact hy

/-- Every listed one's forerunners are listed. -/
def Closed (ops : Array Oper) (l : Array Bool) : Prop :=
  l.size = ops.size ∧ ∀ k o, ops[k]? = some o → l.getD k false = true → ∀ e ∈ o.after, Region.binds .any e = true → l.getD e.on false = true

theorem Closed.set {l : Array Bool} (c : Closed ops l) {i : Nat} (hi : i ∈ Region.ready .any ops l) : Closed ops (l.setIfInBounds i true) := by
  obtain ⟨_, oi, hoi, hall⟩ := mem_ready.1 hi
  refine ⟨by simp [c.1], fun k o ho hk e he hb => ?_⟩
  by_cases hki : i = k
  · subst hki
    rw [hoi] at ho
    obtain rfl := Option.some.inj ho
    exact getD_set_true (hall e he hb)
  · rw [getD_set_ne false hki] at hk
    exact getD_set_true (c.2 k o ho hk e he hb)

theorem getD_set_same {l : Array Bool} {i : Nat} (h : i < l.size) : (l.setIfInBounds i true).getD i false = true := by simp [h]

theorem set_set {l : Array Bool} {i : Nat} : (l.setIfInBounds i true).setIfInBounds i true = l.setIfInBounds i true := by
  apply Array.ext'
  simp

theorem set_of_true {l : Array Bool} {i : Nat} (h : l.getD i false = true) : l.setIfInBounds i true = l := by
  apply Array.ext
  · simp
  · intro k h1 h2
    by_cases e : i = k
    · subst e
      have h3 : l.getD i false = l[i]'h2 := by simp [h2]
      rw [h3] at h
      simp [h]
    · rw [Array.getElem_setIfInBounds_ne h2 e]

/-- An operation that may come up, and that yields the same value as long as I is so, may be taken first. -/
theorem firstI {I : Array Bool → World → Prop} {J : World → Prop} {i : Nat} {oi : Oper} {v : Value} (hi : ops[i]? = some oi) (hsel : ∀ (j : Nat) (o : Oper) cs b, ops[j]? = some o → o.op ≠ .select cs b)
    (hQ : ∀ c a w, ¬ Q (.panic c) a w) (hJ : ∀ l w, Closed ops l → l.getD i true = false → I (l.setIfInBounds i true) w → J w) :
    ∀ (fuel : Nat) (listed : Array Bool) (a : Act) (w : World), Closed ops listed →
      (∀ j oj, ops[j]? = some oj → j ≠ i → listed.getD j true = false → (∀ e ∈ oj.after, Region.binds .any e = true → e.on ≠ i) → oi.apart ops oj = true) →
      i ∈ Region.ready .any ops listed → YieldsJ P ops J oi v a →
      wpAnyI P ops Q I fuel (listed.setIfInBounds i true) (a.put oi.dst v) w → wpAnyI P ops Q (fun l => I (l.setIfInBounds i true)) (fuel + 1) listed a w := by
  have same : ∀ (fuel : Nat) (l : Array Bool) (a : Act) (w : World), wpAnyI P ops Q I fuel (l.setIfInBounds i true) a w → wpAnyI P ops Q (fun l => I (l.setIfInBounds i true)) fuel (l.setIfInBounds i true) a w := fun fuel l a w h =>
    wpAnyI_mono (K := fun l => l.setIfInBounds i true = l) (fun l k hl => by
        by_cases hki : k = i
        · rw [hki, set_set]
        · rw [Array.setIfInBounds_comm _ _ hki, hl])
      (fun l w hl h => by rw [hl]; exact h) fuel set_set h
  intro fuel
  induction fuel with
  | zero =>
    intro listed a w hc _ hr hy H
    refine ⟨wpAnyI_inv 0 H, fun h => (by rw [h] at hr; cases hr), fun j hj => ?_⟩
    by_cases hji : j = i
    · subst hji
      exact hy.wpOp hi (hJ listed w hc (mem_ready.1 hr).1 (wpAnyI_inv 0 H)) (same 0 _ _ _ H)
    · have := ready_mono hj hji
      rw [H.2.1] at this
      cases this
  | succ fuel ih =>
    intro listed a w hc hfree hr hy H
    refine ⟨wpAnyI_inv _ H, fun h => (by rw [h] at hr; cases hr), fun j hj => ?_⟩
    by_cases hji : j = i
    · subst hji
      exact hy.wpOp hi (hJ listed w hc (mem_ready.1 hr).1 (wpAnyI_inv _ H)) (same _ _ _ _ H)
    · have h1 := H.2.2 j (ready_mono hj hji)
      obtain ⟨hjun, oj, hoj, hall⟩ := mem_ready.1 hj
      have hnot : ∀ e ∈ oj.after, Region.binds .any e = true → e.on ≠ i := fun e he hb heq => by
        have h1 := hall e he hb
        have h0 := (mem_ready.1 hr).1
        rw [heq] at h1
        rcases Nat.lt_or_ge i listed.size with h' | h'
        · simp [h'] at h0 h1; rw [h0] at h1; cases h1
        · simp [Array.getElem?_eq_none h'] at h1
      have hap := hfree j oj hoj hji hjun hnot
      obtain ⟨_, _, hd3⟩ := Oper.apart_spec hap
      have h2 := wpOp_put' (i := i) (Y := YieldsJ P ops J oi v) hoj hap (fun cs b => hsel j oj cs b hoj) hQ (fun a u hy => hy.put (fun cs b => hsel i oi cs b hi) hd3 u) (fun a d hy => hy) hy h1
      have hfree' : ∀ k ok, ops[k]? = some ok → k ≠ i → (listed.setIfInBounds j true).getD k true = false →
          (∀ e ∈ ok.after, Region.binds .any e = true → e.on ≠ i) → oi.apart ops ok = true := fun k ok hk hki hun hno => by
        refine hfree k ok hk hki ?_ hno
        by_cases hjk : j = k
        · subst hjk; exact hjun
        · rw [getD_set_ne true hjk] at hun; exact hun
      refine wpOp_mono (fun a' w' h3 => ih (listed.setIfInBounds j true) a' w' (hc.set hj) hfree' (ready_mono hr (Ne.symm hji)) h3.1 ?_) h2
      rw [Array.setIfInBounds_comm _ _ hji]
      exact h3.2

/-- k waits for i, through others. -/
inductive Aft (ops : Array Oper) (i : Nat) : Nat → Prop where
  | one {k o e} : ops[k]? = some o → e ∈ o.after → Region.binds .any e = true → e.on = i → Aft ops i k
  | more {k o e m} : ops[k]? = some o → e ∈ o.after → Region.binds .any e = true → e.on = m → Aft ops i m → Aft ops i k

theorem Aft.listed {i k : Nat} (h : Aft ops i k) {l : Array Bool} (c : Closed ops l) (hk : l.getD k false = true) : l.getD i false = true := by
  induction h with
  | one ho he hb hi => rw [← hi]; exact c.2 _ _ ho hk _ he hb
  | more ho he hb hm _ ih => exact ih (by rw [← hm]; exact c.2 _ _ ho hk _ he hb)

end
end Ai
end Go.Proofs.YtjmhkcfdmcjilaaGreat
namespace Go.Proofs.YtjmhkcfdmcjilaaGreat
namespace Ai
open Go.RowKit
section
variable {P : Program} {ops : Array Oper}

def stepCount : List Step → Nat
  | [] => 0
  | .q _ :: l => stepCount l + 1
  | .one _ :: l => stepCount l + 1
  | .two _ _ :: l => stepCount l + 2

/-- A plan that is right. -/
def PlanR (ops : Array Oper) : Array Bool → List Step → Prop
  | listed, [] => Region.ready .any ops listed = []
  | listed, .q i :: rest => (∃ o, ops[i]? = some o ∧ quietKind o.op = true) ∧ i ∈ Region.ready .any ops listed ∧ Region.free .any ops listed i = true ∧ PlanR ops (listed.setIfInBounds i true) rest
  | listed, .one i :: rest => Region.ready .any ops listed = [i] ∧ PlanR ops (listed.setIfInBounds i true) rest
  | listed, .two i j :: rest => (∃ oi oj, ops[i]? = some oi ∧ ops[j]? = some oj ∧ isMake oi = true ∧ isMake oj = true) ∧ Region.ready .any ops listed = [i, j] ∧
      Region.ready .any ops (listed.setIfInBounds i true) = [j] ∧ Region.ready .any ops (listed.setIfInBounds j true) = [i] ∧ PlanR ops ((listed.setIfInBounds i true).setIfInBounds j true) rest

theorem map_some {α β : Type} {f : α → β} {x : Option α} {y : β} (h : x.map f = some y) : ∃ a, x = some a ∧ f a = y := by
  cases x with
  | none => simp at h
  | some a => exact ⟨a, rfl, by simpa using h⟩

theorem aPlan_ok : ∀ (n : Nat) {listed : Array Bool} {steps : List Step}, aPlan ops n listed = some steps → PlanR ops listed steps ∧ stepCount steps ≤ n
  | n, listed, steps, h => by
    induction n using Nat.strongRecOn generalizing listed steps with
    | _ n ih =>
      cases n with
      | zero =>
        simp only [aPlan] at h
        split at h
        · rename_i hr
          simp only [Option.some.injEq] at h
          subst h
          exact ⟨hr, Nat.le_refl _⟩
        · cases h
      | succ n =>
        simp only [aPlan] at h
        split at h
        · rename_i hr
          simp only [Option.some.injEq] at h
          subst h
          exact ⟨hr, Nat.zero_le _⟩
        · rename_i hr
          split at h
          · rename_i i hf
            obtain ⟨rest, h1, rfl⟩ := map_some h
            obtain ⟨k1, k2⟩ := ih n (by omega) _ _ h1
            have hm := List.mem_of_find?_eq_some hf
            have hp := List.find?_some hf
            cases ho : ops[i]? with
            | none => simp [ho] at hp
            | some o =>
              simp only [ho, Bool.and_eq_true] at hp
              exact ⟨⟨⟨o, ho, hp.1⟩, hm, hp.2, k1⟩, by simp [stepCount]; exact k2⟩
          · split at h
            · rename_i i hri
              obtain ⟨rest, h1, rfl⟩ := map_some h
              obtain ⟨k1, k2⟩ := ih n (by omega) _ _ h1
              exact ⟨⟨hri, k1⟩, by simp [stepCount]; exact k2⟩
            · rename_i i j hri
              split at h
              · rename_i oi oj m hoi hoj
                cases hc : (isMake oi && isMake oj && (Region.ready .any ops (listed.setIfInBounds i true) == [j]) && (Region.ready .any ops (listed.setIfInBounds j true) == [i])) with
                | false => simp [hc] at h
                | true =>
                  simp only [hc, cond_true] at h
                  simp only [Bool.and_eq_true, beq_iff_eq] at hc
                  obtain ⟨rest, h1, rfl⟩ := map_some h
                  obtain ⟨k1, k2⟩ := ih m (by omega) _ _ h1
                  exact ⟨⟨⟨oi, oj, hoi, hoj, hc.1.1.1, hc.1.1.2⟩, hri, hc.1.2, hc.2, k1⟩, by simp [stepCount]; exact k2⟩
              · cases h
            · cases h

variable {B0 : Nat} {W0 : World} {Q : Exit → Act → World → Prop}

/-- What was seen is to be seen. -/
def Fact (P : Program) (ν : Nu) (s : Seen) (w : World) : Prop := ∀ av u, cvV ν s.a = some av → cvV ν s.v = some u → (Instr.loadAt s.t av).run P w = .ok u w

structure SeenR (P : Program) (ops : Array Oper) (ν : Nu) (s : Seen) (w : World) : Prop where
  has : ∃ av u, cvV ν s.a = some av ∧ cvV ν s.v = some u
  fact : Fact P ν s w
  after : ∀ m ∈ s.ds, m = s.i ∨ Aft ops s.i m

/-- As long as no operation that may turn memory, and that waits for it, has come up, what was seen is to be seen. -/
def Inv (P : Program) (ops : Array Oper) (ν : Nu) (ls : List Seen) (l : Array Bool) (w : World) : Prop :=
  ∀ s ∈ ls, (∀ k o, l.getD k false = true → ops[k]? = some o → quietKind o.op = false → ¬ Aft ops s.i k) → Fact P ν s w

theorem Fact.back {ν ν' : Nu} (hle : ν.le ν') {s : Seen} {w : World} (hs : ∃ av u, cvV ν s.a = some av ∧ cvV ν s.v = some u) (h : Fact P ν' s w) : Fact P ν s w := by
  obtain ⟨av, u, h1, h2⟩ := hs
  intro av' u' h1' h2'
  exact h av' u' (cvV_mono hle h1') (cvV_mono hle h2')

theorem still_ok {ν : Nu} {h : H} {w : World} (g : Ga B0 W0 ν h w) : ∀ {ls : List Seen}, stillSeen P h ls = true → ∀ s ∈ ls, (∃ av, cvV ν s.a = some av) → Fact P ν s w ∧ ∃ u, cvV ν s.v = some u
  | [], _, s, hs, _ => by cases hs
  | x :: l, h1, s, hs, ⟨av0, hav0⟩ => by
    simp only [stillSeen, Bool.and_eq_true] at h1
    rcases List.mem_cons.1 hs with rfl | hs
    · split at h1
      · rename_i v hv
        simp only [decide_eq_true_eq] at h1
        obtain ⟨u, k1, k2⟩ := load_ok (P := P) g hv hav0
        have hvv := h1.1
        subst hvv
        refine ⟨fun av u' h2 h3 => ?_, u, k1⟩
        rw [hav0] at h2
        obtain rfl := Option.some.inj h2
        rw [k1] at h3
        obtain rfl := Option.some.inj h3
        exact k2
      · simp at h1
    · exact still_ok g h1.2 s hs ⟨av0, hav0⟩

theorem waits_aft {o : Oper} {k : Nat} (ho : ops[k]? = some o) {s : Seen} (hds : ∀ m ∈ s.ds, m = s.i ∨ Aft ops s.i m) (h : waits o s.ds = true) : Aft ops s.i k := by
  simp only [waits, List.any_eq_true] at h
  obtain ⟨m, hm, h⟩ := h
  obtain ⟨e, he, h⟩ := Array.any_eq_true'.1 h
  simp only [Bool.and_eq_true, beq_iff_eq] at h
  rcases hds m hm with rfl | hd
  · exact .one ho he h.1 h.2
  · exact .more ho he h.1 h.2 hd

/-- What is carried on once operation k has come up. -/
theorem unwaited_mem {k : Nat} {o : Oper} (ho : ops[k]? = some o) {ls : List Seen} (hds : ∀ s ∈ ls, ∀ m ∈ s.ds, m = s.i ∨ Aft ops s.i m) :
    (∀ s ∈ unwaited k o ls, (∀ m ∈ s.ds, m = s.i ∨ Aft ops s.i m) ∧ ∃ s' ∈ ls, s.i = s'.i ∧ s.t = s'.t ∧ s.a = s'.a ∧ s.v = s'.v) ∧
    (∀ s ∈ ls, (∃ s' ∈ unwaited k o ls, s'.i = s.i ∧ s'.t = s.t ∧ s'.a = s.a ∧ s'.v = s.v) ∨ (quietKind o.op = false ∧ Aft ops s.i k)) := by
  unfold unwaited
  cases hq : quietKind o.op with
  | true =>
    simp only [cond_true]
    refine ⟨fun s hs => ?_, fun s hs => ?_⟩
    · obtain ⟨s', h1, h2⟩ := List.mem_map.1 hs
      cases hw : waits o s'.ds with
      | true =>
        simp only [hw, cond_true] at h2
        subst h2
        exact ⟨fun m hm => by
          rcases List.mem_cons.1 hm with rfl | hm
          · exact .inr (waits_aft (s := s') ho (hds s' h1) hw)
          · exact hds s' h1 m hm, s', h1, rfl, rfl, rfl, rfl⟩
      | false =>
        simp only [hw, cond_false] at h2
        subst h2
        exact ⟨hds s' h1, s', h1, rfl, rfl, rfl, rfl⟩
    · refine .inl ⟨_, List.mem_map.2 ⟨s, hs, rfl⟩, ?_⟩
      cases hw : waits o s.ds <;> simp
  | false =>
    simp only [cond_false]
    refine ⟨fun s hs => ?_, fun s hs => ?_⟩
    · have h1 := (List.mem_filter.1 hs).1
      exact ⟨hds s h1, s, h1, rfl, rfl, rfl, rfl⟩
    · cases hw : waits o s.ds with
      | true => exact .inr ⟨trivial, waits_aft ho (hds s hs) hw⟩
      | false => exact .inl ⟨s, List.mem_filter.2 ⟨hs, by simp [hw]⟩, rfl, rfl, rfl, rfl⟩

theorem Fact.eqv {ν : Nu} {s s' : Seen} {w : World} (ht : s.t = s'.t) (ha : s.a = s'.a) (hv : s.v = s'.v) (h : Fact P ν s w) : Fact P ν s' w := by
  unfold Fact at *
  rw [← ht, ← ha, ← hv]
  exact h

theorem quiet_ok {ν : Nu} {f : F} {h : H} {a : Act} {w : World} (s : St B0 W0 ν f h a w) {i : Nat} {o : Oper} {v : V} {l : List Seen} (e : aQuiet P f h i o.op = some (v, l)) :
    ∃ u, cvV ν v = some u ∧ ((l = [] ∧ ∀ w, (execOp a.eval o).run P w = .ok (.value u) w) ∨
      ∃ x, l = [x] ∧ x.i = i ∧ x.ds = [i] ∧ (∃ av, cvV ν x.a = some av) ∧ cvV ν x.v = some u ∧ Fact P ν x w ∧ ∀ w, Fact P ν x w → (execOp a.eval o).run P w = .ok (.value u) w) := by
  obtain ⟨dst, op, ty, pos, af, gd⟩ := o
  unfold aQuiet at e
  simp only at e
  split at e
  · rename_i v' hp
    simp only [Option.some.injEq, Prod.mk.injEq] at e
    obtain ⟨rfl, rfl⟩ := e
    obtain ⟨u, k1, k2⟩ := pure_ok (P := P) (o := ⟨dst, op, ty, pos, af, gd⟩) s.fr hp
    exact ⟨u, k1, .inl ⟨rfl, k2⟩⟩
  · split at e
    · rename_i t x
      split at e
      · rename_i va hx
        obtain ⟨v', h1, h2⟩ := map_some e
        simp only [Prod.mk.injEq] at h2
        obtain ⟨rfl, rfl⟩ := h2
        have hav := ev_ok s.fr hx
        obtain ⟨u, k1, k2⟩ := load_ok (P := P) s.ga h1 hav
        refine ⟨u, k1, .inr ⟨_, rfl, rfl, rfl, ⟨_, hav⟩, k1, fun av u' j1 j2 => ?_, fun w hf => ?_⟩⟩
        · simp only at j1 j2
          rw [hav] at j1
          rw [k1] at j2
          rw [← Option.some.inj j1, ← Option.some.inj j2]
          exact k2
        · have := hf _ _ hav k1
          simp only at this
          simp [execOp, this]
      · cases e
    · cases e

theorem make_ok {ν : Nu} {f : F} {h : H} {a : Act} {w : World} (s : St B0 W0 ν f h a w) {i : Nat} {o : Oper} (ho : ops[i]? = some o) (hm : isMake o = true) {f' : F} {h' : H} (e : aMake P f h o = some (f', h')) {K : Act → World → Prop}
    (hK : ∀ ν' a' w', ν.le ν' → St B0 W0 ν' f' h' a' w' → K a' w') : wpOp P ops Q i K a w := by
  unfold wpOp
  simp only [ho]
  have hg : o.guard = none := by
    unfold isMake at hm
    split at hm
    · rfl
    · cases hm
  simp only [Region.wanted, hg, if_true]
  unfold aMake at e
  split at e
  · rename_i v h1 hmem
    obtain ⟨f1, h2, h3⟩ := map_some e
    simp only [Prod.mk.injEq] at h3
    obtain ⟨rfl, rfl⟩ := h3
    obtain ⟨u, ν', w', hy, k2, k3, k4⟩ := mem_ok (P := P) s.ga s.fr hmem
    have hst : St B0 W0 ν' f1 h1 (a.put o.dst u) w' := ⟨k3, put_ok (s.fr.mono k2) h2 k4, by rw [put_defers]; exact s.df⟩
    refine .inl ?_
    unfold Oper.wp
    rcases hy with hy | ⟨hy, rfl⟩
    · rw [hy]; exact hK ν' _ w' k2 hst
    · rw [hy]; exact hK ν' _ w' k2 hst
  · cases e

theorem drawn_ok {ih : Task → F → H → Option Res} (ihc : ∀ g args f h res, ih (.call g args) f h = some res → SoundCall P B0 W0 g args h res.v res.h) (hsel : Region.noSelect ops = true) (hQ : ∀ c a w, ¬ Q (.panic c) a w) {f' : F} {h' : H} :
    ∀ (steps : List Step) (n : Nat) {listed : Array Bool} {ν : Nu} {f : F} {h : H} {a : Act} {w : World} {ls : List Seen}, PlanR ops listed steps → Closed ops listed → St B0 W0 ν f h a w → (∀ s ∈ ls, SeenR P ops ν s w) →
      aDrawn P ih ops steps f h ls = some (f', h') → (∀ ν' a' w', ν.le ν' → St B0 W0 ν' f' h' a' w' → Q .normal a' w') → wpAnyI P ops Q (Inv P ops ν ls) (stepCount steps + n) listed a w
  | [], n, listed, ν, f, h, a, w, ls, hp, hc, s, hls, e, hpost => by
    simp only [aDrawn, Option.some.injEq, Prod.mk.injEq] at e
    obtain ⟨rfl, rfl⟩ := e
    have hi : Inv P ops ν ls listed w := fun x hx _ => (hls x hx).fact
    have hq := hpost ν a w (Nu.le_refl ν) s
    have hp' : Region.ready .any ops listed = [] := hp
    cases n with
    | zero => exact ⟨hi, hp', hq⟩
    | succ n =>
      simp only [stepCount, Nat.zero_add]
      exact ⟨hi, fun _ => hq, fun i hi => by rw [hp'] at hi; cases hi⟩
  | .q i :: rest, n, listed, ν, f, h, a, w, ls, hp, hc, s, hls, e, hpost => by
    obtain ⟨⟨o, ho, hk⟩, hr, hfree, hp'⟩ := hp
    simp only [aDrawn, ho] at e
    have hc' := hc.set hr
    have hsp := Region.noSelect_spec hsel
    have hfr := Region.free_spec ho hfree
    have hnl := (mem_ready.1 hr).1
    have hilt : i < listed.size := by
      rw [hc.1]
      exact (Array.getElem?_eq_some_iff.1 ho).1
    obtain ⟨hu1, hu2⟩ := unwaited_mem ho (ls := ls) (fun x hx => (hls x hx).after)
    -- what is carried on
    have hls2 : ∀ x ∈ unwaited i o ls, SeenR P ops ν x w := fun x hx => by
      obtain ⟨k1, x', k2, k3, k4, k5, k6⟩ := hu1 x hx
      have := hls x' k2
      exact ⟨by rw [k5, k6]; exact this.has, this.fact.eqv k4.symm k5.symm k6.symm, k1⟩
    have hinv : ∀ (l0 : List Seen) (l : Array Bool) (w : World), Inv P ops ν (l0 ++ unwaited i o ls) (l.setIfInBounds i true) w → Inv P ops ν ls l w := fun l0 l w hi x hx hno => by
      rcases hu2 x hx with ⟨x', k1, k2, k3, k4, k5⟩ | ⟨k1, _⟩
      · refine (hi x' (List.mem_append_right _ k1) fun k o' hk' ho' hq' => ?_).eqv k3 k4 k5
        rw [k2]
        by_cases hki : i = k
        · subst hki
          rw [ho] at ho'
          obtain rfl := Option.some.inj ho'
          rw [hk] at hq'
          cases hq'
        · rw [getD_set_ne false hki] at hk'
          exact hno k o' hk' ho' hq'
      · rw [hk] at k1
        cases k1
    have hcount : stepCount (.q i :: rest) + n = (stepCount rest + n) + 1 := by simp only [stepCount]; omega
    rw [hcount]
    cases hw : aWanted f ops o with
    | true =>
      simp only [hw, cond_true] at e
      split at e
      · rename_i v l hqq
        split at e
        · rename_i f1 hf
          obtain ⟨u, hu, hcase⟩ := quiet_ok (P := P) s hqq
          have hst : St B0 W0 ν f1 h (a.put o.dst u) w := ⟨s.ga, put_ok s.fr hf hu, by rw [put_defers]; exact s.df⟩
          rcases hcase with ⟨rfl, hrun⟩ | ⟨x, rfl, x1, x2, x3, x4, x5, x6⟩
          · have H := drawn_ok ihc hsel hQ rest n hp' hc' hst hls2 e hpost
            have H' := firstI (J := fun _ => True) ho hsp hQ (fun _ _ _ _ _ => trivial) _ listed a w hc hfr hr (.inl ⟨by rw [wanted_ok s.fr]; exact hw, fun w _ => hrun w⟩) H
            exact wpAnyI_mono (K := fun _ => True) (fun _ _ _ => trivial) (fun l w _ hi => hinv [] l w (by simpa using hi)) _ trivial H'
          · have hxl : SeenR P ops ν x w := ⟨by obtain ⟨av, hav⟩ := x3; exact ⟨av, u, hav, x4⟩, x5, fun m hm => by rw [x2] at hm; rw [x1]; exact .inl (List.mem_singleton.1 hm)⟩
            have hls3 : ∀ y ∈ [x] ++ unwaited i o ls, SeenR P ops ν y w := fun y hy => by
              rcases List.mem_append.1 hy with hy | hy
              · rw [List.mem_singleton.1 hy]; exact hxl
              · exact hls2 y hy
            have H := drawn_ok ihc hsel hQ rest n hp' hc' hst hls3 e hpost
            have H' := firstI (J := Fact P ν x) ho hsp hQ (fun l w hcl hil hi => by
              refine hi x (by simp) fun k o' hk' ho' hq' haft => ?_
              rw [x1] at haft
              by_cases hki : i = k
              · subst hki
                rw [ho] at ho'
                obtain rfl := Option.some.inj ho'
                rw [hk] at hq'
                cases hq'
              · rw [getD_set_ne false hki] at hk'
                have h1 := haft.listed hcl hk'
                rcases Nat.lt_or_ge i l.size with h' | h'
                · simp [h'] at h1 hil; rw [h1] at hil; cases hil
                · simp [Array.getElem?_eq_none h'] at h1) _ listed a w hc hfr hr (.inl ⟨by rw [wanted_ok s.fr]; exact hw, fun w hw => x6 w hw⟩) H
            exact wpAnyI_mono (K := fun _ => True) (fun _ _ _ => trivial) (fun l w _ hi => hinv [x] l w hi) _ trivial H'
        · cases e
      · cases e
    | false =>
      simp only [hw, cond_false] at e
      split at e
      · rename_i f1 hf
        have hst : St B0 W0 ν f1 h (a.put o.dst undef) w := ⟨s.ga, put_ok s.fr hf undef_cv, by rw [put_defers]; exact s.df⟩
        have H := drawn_ok ihc hsel hQ rest n hp' hc' hst hls2 e hpost
        have H' := firstI (J := fun _ => True) ho hsp hQ (fun _ _ _ _ _ => trivial) _ listed a w hc hfr hr (.inr ⟨by rw [wanted_ok s.fr]; exact hw, rfl⟩) H
        exact wpAnyI_mono (K := fun _ => True) (fun _ _ _ => trivial) (fun l w _ hi => hinv [] l w (by simpa using hi)) _ trivial H'
      · cases e
  | .one i :: rest, n, listed, ν, f, h, a, w, ls, hp, hc, s, hls, e, hpost => by
    obtain ⟨hr, hp'⟩ := hp
    have hri : i ∈ Region.ready .any ops listed := by rw [hr]; simp
    have hc' := hc.set hri
    obtain ⟨_, o, ho, _⟩ := mem_ready.1 hri
    have hilt : i < listed.size := by
      rw [hc.1]
      exact (Array.getElem?_eq_some_iff.1 ho).1
    simp only [aDrawn, ho] at e
    obtain ⟨hu1, hu2⟩ := unwaited_mem ho (ls := ls) (fun x hx => (hls x hx).after)
    have hcount : stepCount (.one i :: rest) + n = (stepCount rest + n) + 1 := by simp only [stepCount]; omega
    rw [hcount]
    -- what holds behind it holds of what was carried
    have hinv : ∀ (ν' : Nu), ν.le ν' → ∀ (l : Array Bool) (w : World), l.getD i false = true → Inv P ops ν' (unwaited i o ls) l w → Inv P ops ν ls l w := fun ν' hle l w hl hi x hx hno => by
      rcases hu2 x hx with ⟨x', k1, k2, k3, k4, k5⟩ | ⟨k1, k2⟩
      · exact ((hi x' k1 fun k o' hk' ho' hq' => by rw [k2]; exact hno k o' hk' ho' hq').eqv k3 k4 k5).back hle (hls x hx).has
      · exact absurd k2 (hno i o hl ho k1)
    have keepK : ∀ (l : Array Bool) (j : Nat), l.getD i false = true → (l.setIfInBounds j true).getD i false = true := fun l j hl => getD_set_true hl
    refine ⟨fun x hx _ => (hls x hx).fact, fun h => (by rw [h] at hri; cases hri), fun j hj => ?_⟩
    rw [hr] at hj
    obtain rfl := List.mem_singleton.1 hj
    unfold wpOp
    simp only [ho]
    rw [wanted_ok s.fr]
    cases hw : aWanted f ops o with
    | true =>
      simp only [hw, cond_true] at e
      simp only [if_true]
      split at e
      · rename_i v h1 hop
        cases hst : stillSeen P h1 (unwaited j o ls) with
        | false => simp [hst] at e
        | true =>
          simp only [hst, cond_true] at e
          split at e
          · rename_i f1 hf
            refine .inl (oper_ok ihc s.ga s.fr hop fun u ν' w' k1 k2 k3 => ?_)
            have hs' : St B0 W0 ν' f1 h1 (a.put o.dst u) w' := ⟨k2, put_ok (s.fr.mono k1) hf k3, by rw [put_defers]; exact s.df⟩
            have hls' : ∀ x ∈ unwaited j o ls, SeenR P ops ν' x w' := fun x hx => by
              obtain ⟨i1, x', i2, i3, i4, i5, i6⟩ := hu1 x hx
              obtain ⟨av, uu, j1, j2⟩ := (hls x' i2).has
              obtain ⟨m1, m2⟩ := still_ok (P := P) k2 hst x hx ⟨av, by rw [i5]; exact cvV_mono k1 j1⟩
              exact ⟨⟨av, uu, by rw [i5]; exact cvV_mono k1 j1, by rw [i6]; exact cvV_mono k1 j2⟩, m1, i1⟩
            have H := drawn_ok ihc hsel hQ rest n hp' hc' hs' hls' e fun ν2 a2 w2 q1 q2 => hpost ν2 a2 w2 (Nu.le_trans k1 q1) q2
            exact wpAnyI_mono (K := fun l => l.getD j false = true) keepK (fun l w hl hi => hinv ν' k1 l w hl hi) _ (getD_set_same hilt) H
          · cases e
      · cases e
    | false =>
      simp only [hw, cond_false] at e
      simp only [Bool.false_eq_true, if_false]
      split at e
      · rename_i f1 hf
        have hs' : St B0 W0 ν f1 h (a.put o.dst undef) w := ⟨s.ga, put_ok s.fr hf undef_cv, by rw [put_defers]; exact s.df⟩
        have hls' : ∀ x ∈ unwaited j o ls, SeenR P ops ν x w := fun x hx => by
          obtain ⟨i1, x', i2, i3, i4, i5, i6⟩ := hu1 x hx
          have := hls x' i2
          exact ⟨by rw [i5, i6]; exact this.has, this.fact.eqv i4.symm i5.symm i6.symm, i1⟩
        have H := drawn_ok ihc hsel hQ rest n hp' hc' hs' hls' e hpost
        exact wpAnyI_mono (K := fun l => l.getD j false = true) keepK (fun l w hl hi => hinv ν (Nu.le_refl ν) l w hl hi) _ (getD_set_same hilt) H
      · cases e
  | .two i j :: rest, n, listed, ν, f, h, a, w, ls, hp, hc, s, hls, e, hpost => by
    obtain ⟨⟨oi, oj, hoi, hoj, hmi, hmj⟩, hr, hr1, hr2, hp'⟩ := hp
    have hri : i ∈ Region.ready .any ops listed := by rw [hr]; simp
    have hrj : j ∈ Region.ready .any ops listed := by rw [hr]; simp
    have hci := hc.set hri
    have hcj := hc.set hrj
    have hcij := hci.set (i := j) (by rw [hr1]; simp)
    have hcji := hcj.set (i := i) (by rw [hr2]; simp)
    have hcomm : (listed.setIfInBounds j true).setIfInBounds i true = (listed.setIfInBounds i true).setIfInBounds j true := by
      by_cases hij : i = j
      · subst hij; rfl
      · rw [Array.setIfInBounds_comm _ _ (fun e => hij e.symm)]
    simp only [aDrawn, hoi, hoj] at e
    split at e
    · rename_i f1 h1 e1
      split at e
      · rename_i f2 h2 e2
        split at e
        · rename_i f3 h3 e3
          split at e
          · rename_i f4 h4 e4
            cases hcond : (decide (f4 = f2 ∧ h4.t = h2.t) && stillSeen P h1 ls && stillSeen P h2 ls && stillSeen P h3 ls) with
            | false => simp only [hcond, cond_false, reduceCtorEq] at e
            | true =>
              simp only [hcond, cond_true] at e
              simp only [Bool.and_eq_true, decide_eq_true_eq] at hcond
              obtain ⟨⟨⟨⟨c1, c2⟩, c3⟩, c4⟩, c5⟩ := hcond
              have hcount : stepCount (.two i j :: rest) + n = (stepCount rest + n) + 1 + 1 := by simp only [stepCount]; omega
              rw [hcount]
              have seen : ∀ {ν' : Nu} {hh : H} {w' : World}, ν.le ν' → Ga B0 W0 ν' hh w' → stillSeen P hh ls = true → ∀ x ∈ ls, SeenR P ops ν' x w' := fun {ν' hh w'} hle gg hs x hx => by
                obtain ⟨av, uu, j1, j2⟩ := (hls x hx).has
                obtain ⟨m1, m2⟩ := still_ok (P := P) gg hs x hx ⟨av, cvV_mono hle j1⟩
                exact ⟨⟨av, uu, cvV_mono hle j1, cvV_mono hle j2⟩, m1, (hls x hx).after⟩
              have invb : ∀ {ν' : Nu}, ν.le ν' → ∀ (l : Array Bool) (w : World), Inv P ops ν' ls l w → Inv P ops ν ls l w := fun {ν'} hle l w hi x hx hno => (hi x hx hno).back hle (hls x hx).has
              have fin : ∀ {ν' : Nu} {a' : Act} {w' : World}, ν.le ν' → St B0 W0 ν' f2 h2 a' w' → wpAnyI P ops Q (Inv P ops ν ls) (stepCount rest + n) ((listed.setIfInBounds i true).setIfInBounds j true) a' w' := fun {ν' a' w'} hle s' => by
                have H := drawn_ok ihc hsel hQ rest n hp' hcij s' (seen hle s'.ga c4) e fun ν2 a2 w2 q1 q2 => hpost ν2 a2 w2 (Nu.le_trans hle q1) q2
                exact wpAnyI_mono (K := fun _ => True) (fun _ _ _ => trivial) (fun l w _ hi => invb hle l w hi) _ trivial H
              refine ⟨fun x hx _ => (hls x hx).fact, fun h => (by rw [h] at hri; cases hri), fun k hk => ?_⟩
              rw [hr] at hk
              rcases List.mem_cons.1 hk with rfl | hk
              · refine make_ok (P := P) s hoi hmi e1 fun ν1 a1 w1 l1 s1 => ?_
                refine ⟨fun x hx _ => ((seen l1 s1.ga c3 x hx).fact).back l1 (hls x hx).has, fun h => (by rw [h] at hr1; cases hr1), fun k' hk' => ?_⟩
                rw [hr1] at hk'
                obtain rfl := List.mem_singleton.1 hk'
                exact make_ok (P := P) s1 hoj hmj e2 fun ν2 a2 w2 l2 s2 => fin (Nu.le_trans l1 l2) s2
              · obtain rfl := List.mem_singleton.1 hk
                have s0 : St B0 W0 ν f { h with next := h.next + 1 } a w := ⟨s.ga.congr fun _ => rfl, s.fr, s.df⟩
                refine make_ok (P := P) s0 hoj hmj e3 fun ν1 a1 w1 l1 s1 => ?_
                refine ⟨fun x hx _ => ((seen l1 s1.ga c5 x hx).fact).back l1 (hls x hx).has, fun h => (by rw [h] at hr2; cases hr2), fun k' hk' => ?_⟩
                rw [hr2] at hk'
                obtain rfl := List.mem_singleton.1 hk'
                have s1' : St B0 W0 ν1 f3 { h3 with next := h.next } a1 w1 := ⟨s1.ga.congr fun _ => rfl, s1.fr, s1.df⟩
                refine make_ok (P := P) s1' hoi hmi e4 fun ν2 a2 w2 l2 s2 => ?_
                rw [hcomm]
                refine fin (Nu.le_trans l1 l2) ⟨s2.ga.congr fun m => ?_, by rw [← c1]; exact s2.fr, s2.df⟩
                unfold H.get
                rw [c2]
          · cases e
        · cases e
      · cases e
    · cases e

theorem drawn_region {ih : Task → F → H → Option Res} (hm : P.follows .mixedOrders = true) (ihc : ∀ g args f h res, ih (.call g args) f h = some res → SoundCall P B0 W0 g args h res.v res.h) (hsel : Region.noSelect ops = true) {f f' : F} {h h' : H} {steps : List Step}
    (hplan : aPlan ops ops.size (Array.replicate ops.size false) = some steps) {ν : Nu} {a : Act} {w : World} (s : St B0 W0 ν f h a w) (e : aDrawn P ih ops steps f h [] = some (f', h')) {id : Nat}
    (hpost : ∀ ν' a' w', ν.le ν' → St B0 W0 ν' f' h' a' w' → Q .normal a' w') : (Code.region id ops true).wp P Q a w := by
  obtain ⟨hp, hc⟩ := aPlan_ok _ hplan
  have hclosed : Closed ops (Array.replicate ops.size false) := ⟨by simp, fun k o _ hk => by
    simp only [Array.getD_eq_getD_getElem?, Array.getElem?_replicate] at hk
    split at hk <;> simp at hk⟩
  have s' : St B0 W0 ν f h a { w with drawn := w.drawn + 1 } := ⟨s.ga.drew, s.fr, s.df⟩
  have hwp : (Code.region id ops true).wp P (fun e a w => e = .normal ∧ Q .normal a w) a w := by
    refine wp_region_any hm ?_
    have H := drawn_ok (Q := fun e a w => e = .normal ∧ Q .normal a w) ihc hsel (fun c a w hh => by cases hh.1) steps (ops.size - stepCount steps) hp hclosed s' (ls := []) (fun _ hx => by cases hx) e (fun ν' a' w' k1 k2 => ⟨rfl, hpost ν' a' w' k1 k2⟩)
    have hn : stepCount steps + (ops.size - stepCount steps) = ops.size := by omega
    rw [hn] at H
    exact wpAnyI_any _ H
  exact wp_mono hwp fun e a w hh => by rw [hh.1]; exact hh.2

end
end Ai
end Go.Proofs.YtjmhkcfdmcjilaaGreat
