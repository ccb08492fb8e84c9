/-
  Operations that look at no memory: what the reckoner says of them is so in every world.
-/
import Derived.Test.YtjmhkcfdmcjilaaGreatAiD
namespace Go.Proofs.YtjmhkcfdmcjilaaGreat
namespace Ai
open Go.RowKit
section
variable {P : Program} {ν : Nu}

/-! ### The program's types -/

theorem sizeT_run {t : TypeId} {z : Nat} (h : sizeT P t = some z) (w : World) : (sizeOf t).run P w = .ok z w := by
  unfold sizeT at h
  cases hi : P.info? t with
  | none => simp [hi] at h
  | some i =>
    simp only [hi, Option.map_some, Option.some.injEq] at h
    simp [sizeOf, typeInfo, hi, h]

theorem isAggT_run {t : TypeId} {b : Bool} (h : isAggT P t = some b) (w : World) : (isAgg t).run P w = .ok b w := by
  unfold isAggT at h
  cases hu : P.underlying t with
  | none => simp [hu] at h
  | some d =>
    simp only [isAgg, Sem.run_bind, run_underlying hu, Result.andThen_ok]
    cases d <;> simp only [hu, Option.some.injEq] at h <;> subst h <;> simp

theorem cells_cv {x : W} {v : Value} (h : cvW ν x = some v) : cvL ν x.cells = some v.cells.toList := by
  cases x with
  | s x =>
    have h1 := cvS_one (ν := ν) (x := x) (v := v) h
    have h2 : cvS ν x = some v := h
    have : v.cells = #[v] := by cases v <;> first | rfl | simp [Value.oneCell'] at h1
    simp [W.cells, cvL, h2, this]
  | a l =>
    simp only [cvW] at h
    cases hl : cvL ν l with
    | none => simp [hl] at h
    | some vs =>
      simp only [hl, Option.some.injEq] at h
      subst h
      simpa [W.cells, Value.cells] using hl

theorem zeroT_run {t : TypeId} {x : V} (h : zeroT P t = some x) : ∃ z, (∀ w, (zeroValue t).run P w = .ok z w) ∧ ∀ ν, cvV ν x = some z := by
  unfold zeroT at h
  cases hi : P.info? t with
  | none => simp [hi] at h
  | some i =>
    simp only [hi] at h
    cases hz : i.zero with
    | none => simp [hz] at h
    | some z =>
      simp only [hz] at h
      exact ⟨z, fun w => by simp [zeroValue, typeInfo, hi, hz], fun ν => absV_cv h ν⟩

theorem zeroC_info {t : TypeId} {l : List S} (h : zeroC P t = some l) : ∃ i z, P.info? t = some i ∧ i.zero = some z ∧ ∀ ν, cvL ν l = some z.cells.toList := by
  unfold zeroC at h
  cases hz : zeroT P t with
  | none => simp [hz] at h
  | some x =>
    cases x with
    | t l => simp [hz] at h
    | w x =>
      simp only [hz, Option.some.injEq] at h
      subst h
      unfold zeroT at hz
      cases hi : P.info? t with
      | none => simp [hi] at hz
      | some i =>
        simp only [hi] at hz
        cases hzz : i.zero with
        | none => simp [hzz] at hz
        | some z =>
          simp only [hzz] at hz
          exact ⟨i, z, rfl, hzz, fun ν => cells_cv (show cvW ν x = some z from absV_cv hz ν)⟩

theorem zeroC_run {t : TypeId} {l : List S} (h : zeroC P t = some l) : ∃ z, (∀ w, (zeroValue t).run P w = .ok z w) ∧ ∀ ν, cvL ν l = some z.cells.toList := by
  obtain ⟨i, z, h1, h2, h3⟩ := zeroC_info h
  exact ⟨z, fun w => by simp [zeroValue, typeInfo, h1, h2], h3⟩

theorem cvL_agg {l : List S} {vs : Array Value} (h : cvW ν (.a l) = some (.agg vs)) : cvL ν l = some vs.toList := by
  simp only [cvW] at h
  cases hl : cvL ν l with
  | none => simp [hl] at h
  | some us =>
    simp only [hl, Option.some.injEq, Value.agg.injEq] at h
    rw [← h]

theorem agg_of {l : List S} {v : Value} (h : cvV ν (.w (.a l)) = some v) : ∃ vs : Array Value, v = .agg vs ∧ cvL ν l = some vs.toList := by
  simp only [cvV, cvW] at h
  cases hl : cvL ν l with
  | none => simp [hl] at h
  | some us =>
    simp only [hl, Option.some.injEq] at h
    exact ⟨us.toArray, h.symm, by simp⟩

theorem agg_mk {l : List S} {vs : List Value} (h : cvL ν l = some vs) : cvV ν (.w (.a l)) = some (.agg vs.toArray) := by
  simp [cvV, cvW, h]

theorem partT_run {t : TypeId} {cs : List S} {off : Nat} {x : V} {vs : Array Value} (h : partT P t cs off = some x) (hc : cvL ν cs = some vs.toList) :
    ∃ u, cvV ν x = some u ∧ ∀ w, (part t vs off).run P w = .ok u w := by
  unfold partT at h
  cases ha : isAggT P t with
  | none => simp [ha] at h
  | some b =>
    cases b with
    | true =>
      simp only [ha] at h
      cases hz : sizeT P t with
      | none => simp [hz] at h
      | some z =>
        simp only [hz, Option.some.injEq] at h
        subst h
        refine ⟨_, agg_mk (cvL_take z (cvL_drop off hc)), fun w => ?_⟩
        simp only [part, Sem.run_bind, isAggT_run ha, Result.andThen_ok, sizeT_run hz, if_true, Sem.run_pure]
        congr 2
        apply Array.ext'
        simp [List.extract_eq_take_drop]
    | false =>
      simp only [ha] at h
      cases hg : cs[off]? with
      | none => simp [hg] at h
      | some y =>
        simp only [hg, Option.map_some, Option.some.injEq] at h
        subst h
        have h1 := cvL_get hc off
        rw [hg] at h1
        cases hy : cvS ν y with
        | none =>
          have h2 := cvL_length hc
          have h3 : off < cs.length := (List.getElem?_eq_some_iff.1 hg).1
          rw [List.getElem?_eq_getElem (by omega)] at h1
          simp [hy] at h1
        | some u =>
          refine ⟨u, hy, fun w => ?_⟩
          have h4 : vs[off]? = some u := by simpa [hy] using h1
          simp [part, isAggT_run ha, h4]

/-! ### Operands -/

def FR (ν : Nu) (f : F) (a : Array Value) : Prop := a.size = f.n ∧ ∀ t, cvV ν (f.t.get t) = some (a.getD t undef)

theorem FR.mono {ν ν' : Nu} (h : ν.le ν') {f : F} {a : Array Value} (r : FR ν f a) : FR ν' f a := ⟨r.1, fun t => cvV_mono h (r.2 t)⟩

theorem ev_ok {f : F} {a : Act} (r : FR ν f a.tmps) {x : Operand} {v : V} (h : f.ev x = some v) : cvV ν v = some (a.eval x) := by
  cases x with
  | tmp t => simp only [F.ev, Option.some.injEq] at h; subst h; exact r.2 t
  | const c => exact absV_cv h ν
  | global g => simp [F.ev] at h
  | func g =>
    simp only [F.ev, Option.some.injEq] at h
    subst h
    simp [cvV, cvW, cvS, cvCs, Act.eval]

theorem put_ok {f f' : F} {a : Act} (r : FR ν f a.tmps) {dst : Option Tmp} {x : V} {u : Value} (h : f.put dst x = some f') (hu : cvV ν x = some u) : FR ν f' (a.put dst u).tmps := by
  cases dst with
  | none => simp only [F.put, Option.some.injEq] at h; subst h; exact r
  | some d =>
    obtain ⟨n, tr⟩ := f
    have h' : cond (Nat.blt d n && Nat.blt n top) (fV x fun x => Tr.setK 16 tr d x fun t => some (⟨n, t⟩ : F)) none = some f' := h
    rw [fV_eq, Tr.setK_eq] at h'
    cases hc : (Nat.blt d n && Nat.blt n top) with
    | false => simp [hc] at h'
    | true =>
      simp only [hc, cond_true, Option.some.injEq] at h'
      subst h'
      simp only [Bool.and_eq_true, Nat.blt, Nat.ble_eq] at hc
      have hd : d < n := hc.1
      have hn : n < top := hc.2
      have hsz : a.tmps.size = n := r.1
      refine ⟨by simp [Act.put, hsz], fun t => ?_⟩
      show cvV ν ((Tr.set 16 tr d x).get t) = _
      rw [Tr.get_set16 tr d x (by omega)]
      by_cases e : t = d
      · subst e
        have : t < a.tmps.size := by rw [hsz]; exact hd
        simp [Act.put, hu, this]
      · have h2 := r.2 t
        simp only at h2
        rw [if_neg e, h2]
        have : ¬ d = t := fun e' => e e'.symm
        simp [Act.put, Array.getElem?_setIfInBounds_ne this]

theorem evs_ok {f : F} {a : Act} (r : FR ν f a.tmps) : ∀ {l : List Operand} {vs : List V}, f.evs l = some vs → l.map (fun x => cvV ν (f.ev x |>.getD undefV)) = l.map (fun x => some (a.eval x)) ∧ vs.map (cvV ν) = l.map (fun x => some (a.eval x))
  | [], vs, h => by simp only [F.evs, Option.some.injEq] at h; subst h; simp
  | x :: l, vs, h => by
    simp only [F.evs] at h
    cases h1 : f.ev x with
    | none => simp [h1] at h
    | some v =>
      cases h2 : f.evs l with
      | none => simp [h1, h2] at h
      | some us =>
        simp only [h1, h2, Option.some.injEq] at h
        subst h
        have ih := evs_ok r h2
        have hv := ev_ok r h1
        simp only [List.map_cons, h1, Option.getD_some, hv, ih.1, ih.2, and_self]

theorem evs_map {f : F} {a : Act} (r : FR ν f a.tmps) {l : List Operand} {vs : List V} (h : f.evs l = some vs) : vs.map (cvV ν) = (l.map a.eval).map some := by
  rw [(evs_ok r h).2]; simp [Function.comp_def]

theorem evp_ok {f : F} {a : Act} (r : FR ν f a.tmps) : ∀ {l : List (Nat × Operand)} {vs : List (Nat × V)}, f.evp l = some vs →
    vs.map (fun p => (p.1, cvV ν p.2)) = l.map (fun p => (p.1, some (a.eval p.2)))
  | [], vs, h => by simp only [F.evp, Option.some.injEq] at h; subst h; simp
  | (i, x) :: l, vs, h => by
    simp only [F.evp] at h
    cases h1 : f.ev x with
    | none => simp [h1] at h
    | some v =>
      cases h2 : f.evp l with
      | none => simp [h1, h2] at h
      | some us =>
        simp only [h1, h2, Option.some.injEq] at h
        subst h
        simp only [List.map_cons, ev_ok r h1, evp_ok r h2]

/-! ### Values told apart -/

theorem int_of {k : IntKind} {n : Int} {u : Value} (h : cvV ν (.w (.s (.i k n))) = some u) : u = .int k n := (Option.some.inj h).symm
theorem bool_of {b : Bool} {u : Value} (h : cvV ν (.w (.s (.b b))) = some u) : u = .bool b := (Option.some.inj h).symm
theorem str_of {l : List UInt8} {u : Value} (h : cvV ν (.w (.s (.s l))) = some u) : u = .string ⟨l.toArray⟩ := (Option.some.inj h).symm
theorem ptr_of {n off : Nat} {u : Value} (h : cvV ν (.w (.s (.p n off))) = some u) : ∃ y, ν n = some y ∧ u = .pointer (some ⟨y.1, off, none⟩) := by
  simp only [cvV, cvW, cvS] at h
  cases hn : ν n with
  | none => simp [hn] at h
  | some y => simp only [hn, Option.some.injEq] at h; exact ⟨y, rfl, h.symm⟩
theorem ptr_mk {n : Nat} {y : Nat × Nat} (off : Nat) (h : ν n = some y) : cvV ν (.w (.s (.p n off))) = some (.pointer (some ⟨y.1, off, none⟩)) := by
  simp [cvV, cvW, cvS, h]
theorem sl_of {n off len c : Nat} {o : Bool} {u : Value} (h : cvV ν (.w (.s (.sl n off len c o))) = some u) :
    ∃ y, ν n = some y ∧ u = .slice (some ⟨y.1, off, none⟩) len (cond o (c + y.2) c) := by
  simp only [cvV, cvW, cvS] at h
  cases hn : ν n with
  | none => simp [hn] at h
  | some y => simp only [hn, Option.some.injEq] at h; exact ⟨y, rfl, h.symm⟩
theorem sl_mk {n : Nat} {y : Nat × Nat} (off len c : Nat) (o : Bool) (h : ν n = some y) : cvV ν (.w (.s (.sl n off len c o))) = some (.slice (some ⟨y.1, off, none⟩) len (cond o (c + y.2) c)) := by
  simp [cvV, cvW, cvS, h]
theorem nsl_of {u : Value} (h : cvV ν (.w (.s .nsl)) = some u) : u = .slice none 0 0 := (Option.some.inj h).symm

theorem vNat_of {x : V} {n : Nat} {u : Value} (h : vNat x = some n) (hu : cvV ν x = some u) : ∃ k, u = .int k (n : Int) := by
  unfold vNat at h
  split at h
  · simp only [Option.some.injEq] at h
    subst h
    exact ⟨_, int_of hu⟩
  · simp at h

theorem add_addr (b off n : Nat) : (⟨b, off, none⟩ : Addr).add n = ⟨b, off + n, none⟩ := by
  unfold Addr.add; split <;> simp_all

end
end Ai
end Go.Proofs.YtjmhkcfdmcjilaaGreat
