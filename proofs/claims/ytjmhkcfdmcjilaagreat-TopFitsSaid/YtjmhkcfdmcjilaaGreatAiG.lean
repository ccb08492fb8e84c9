/-
  Slices, structs that are built, closures; and all operations that look at no memory in one word: 'pure_ok'.
-/
import Derived.Test.YtjmhkcfdmcjilaaGreatAiF
namespace Go.Proofs.YtjmhkcfdmcjilaaGreat
namespace Ai
open Go.RowKit
section
variable {P : Program} {ν : Nu}

/-- An operand that may be none. -/
def OptR (ν : Nu) : Option V → Option Value → Prop
  | none, none => True
  | some x, some v => cvV ν x = some v
  | _, _ => False

theorem bound_run {y : Nat} {x : V} {v : Value} {i : Nat} {code : BoundsCode} (h : vNat x = some i) (hv : cvV ν x = some v) (hi : i ≤ y) (w : World) : (Instr.sliceBound v y code).run P w = .ok i w := by
  obtain ⟨k, rfl⟩ := vNat_of h hv
  simp [Instr.sliceBound, asIntOf, hi]

theorem aBounds_ok {isSlice : Bool} {len cap cap' : Nat} {lo hi mx : Option V} {l h m : Nat} {vlo vhi vmx : Option Value} (e : aBounds len cap lo hi mx = some (l, h, m)) (hc : cap ≤ cap')
    (r1 : OptR ν lo vlo) (r2 : OptR ν hi vhi) (r3 : OptR ν mx vmx) (w : World) :
    (Instr.sliceBounds isSlice len cap' vlo vhi vmx).run P w = .ok (l, h, if mx = none then cap' else m) w := by
  unfold aBounds at e
  cases mx with
  | none =>
    cases vmx with
    | some _ => exact r3.elim
    | none =>
      simp only at e
      cases hi with
      | none =>
        cases vhi with
        | some _ => exact r2.elim
        | none =>
          simp only at e
          cases lo with
          | none =>
            cases vlo with
            | some _ => exact r1.elim
            | none =>
              simp only [Option.some.injEq, Prod.mk.injEq] at e
              obtain ⟨rfl, rfl, rfl⟩ := e
              simp [Instr.sliceBounds]
          | some x =>
            cases vlo with
            | none => exact r1.elim
            | some vx =>
              simp only at e
              cases hx : vNat x with
              | none => simp [hx] at e
              | some i =>
                simp only [hx] at e
                cases hb : Nat.ble i len with
                | false => simp [hb] at e
                | true =>
                  simp only [hb, cond_true, Option.some.injEq, Prod.mk.injEq] at e
                  obtain ⟨rfl, rfl, rfl⟩ := e
                  simp [Instr.sliceBounds, bound_run hx r1 (Nat.le_of_ble_eq_true hb)]
      | some z =>
        cases vhi with
        | none => exact r2.elim
        | some vz =>
          simp only at e
          cases hz : vNat z with
          | none => simp [hz] at e
          | some j =>
            simp only [hz] at e
            cases hb : Nat.ble j cap with
            | false => simp [hb] at e
            | true =>
              have hj := Nat.le_of_ble_eq_true hb
              simp only [hb, cond_true] at e
              cases lo with
              | none =>
                cases vlo with
                | some _ => exact r1.elim
                | none =>
                  simp only [Option.some.injEq, Prod.mk.injEq] at e
                  obtain ⟨rfl, rfl, rfl⟩ := e
                  simp [Instr.sliceBounds, bound_run hz r2 (Nat.le_trans hj hc)]
              | some x =>
                cases vlo with
                | none => exact r1.elim
                | some vx =>
                  simp only at e
                  cases hx : vNat x with
                  | none => simp [hx] at e
                  | some i =>
                    simp only [hx] at e
                    cases hb' : Nat.ble i j with
                    | false => simp [hb'] at e
                    | true =>
                      simp only [hb', cond_true, Option.some.injEq, Prod.mk.injEq] at e
                      obtain ⟨rfl, rfl, rfl⟩ := e
                      simp [Instr.sliceBounds, bound_run hz r2 (Nat.le_trans hj hc), bound_run hx r1 (Nat.le_of_ble_eq_true hb')]
  | some y =>
    cases vmx with
    | none => exact r3.elim
    | some vy =>
      simp only at e
      cases hy : vNat y with
      | none => simp [hy] at e
      | some q =>
        simp only [hy] at e
        cases hq : Nat.ble q cap with
        | false => simp [hq] at e
        | true =>
          have hq' := Nat.le_trans (Nat.le_of_ble_eq_true hq) hc
          simp only [hq, cond_true] at e
          cases hi with
          | none => simp at e
          | some z =>
            cases vhi with
            | none => exact r2.elim
            | some vz =>
              simp only at e
              cases hz : vNat z with
              | none => simp [hz] at e
              | some j =>
                simp only [hz] at e
                cases hb : Nat.ble j q with
                | false => simp [hb] at e
                | true =>
                  have hj := Nat.le_of_ble_eq_true hb
                  simp only [hb, cond_true] at e
                  cases lo with
                  | none =>
                    cases vlo with
                    | some _ => exact r1.elim
                    | none =>
                      simp only [Option.some.injEq, Prod.mk.injEq] at e
                      obtain ⟨rfl, rfl, rfl⟩ := e
                      simp [Instr.sliceBounds, bound_run hy r3 hq', bound_run hz r2 hj]
                  | some x =>
                    cases vlo with
                    | none => exact r1.elim
                    | some vx =>
                      simp only at e
                      cases hx : vNat x with
                      | none => simp [hx] at e
                      | some i =>
                        simp only [hx] at e
                        cases hb' : Nat.ble i j with
                        | false => simp [hb'] at e
                        | true =>
                          simp only [hb', cond_true, Option.some.injEq, Prod.mk.injEq] at e
                          obtain ⟨rfl, rfl, rfl⟩ := e
                          simp [Instr.sliceBounds, bound_run hy r3 hq', bound_run hz r2 hj, bound_run hx r1 (Nat.le_of_ble_eq_true hb')]

theorem roomOf_eq (c m : Nat) (mx : Option V) : roomOf c m mx = if mx = none then c else m := by cases mx <;> rfl

theorem beq_dec (a b : Nat) : Nat.beq a b = decide (a = b) := by
  cases h : Nat.beq a b with
  | true => simp [Nat.eq_of_beq_eq_true h]
  | false => simp [Nat.ne_of_beq_eq_false h]

theorem ble_dec (a b : Nat) : Nat.ble a b = decide (a ≤ b) := by
  by_cases h : a ≤ b
  · simp [h, Nat.ble_eq_true_of_le h]
  · have : ¬ Nat.ble a b = true := fun e => h (Nat.le_of_ble_eq_true e)
    simp [h, this]

theorem se_mk {n : Nat} {y : Nat × Nat} (off d : Nat) (h : ν n = some y) :
    cvV ν (.w (.s (.se n off d))) = some (if y.2 = 0 then .slice (some ⟨y.1, off, none⟩) 0 0 else .slice (some ((⟨y.1, off, none⟩ : Addr).add d)) 0 y.2) := by
  simp [cvV, cvW, cvS, h]

theorem aSlice_ok {t : TypeId} {vx v : V} {lo hi mx : Option V} {a : Value} {vlo vhi vmx : Option Value} (e : aSlice P t vx lo hi mx = some v) (ha : cvV ν vx = some a)
    (r1 : OptR ν lo vlo) (r2 : OptR ν hi vhi) (r3 : OptR ν mx vmx) : ∃ u, cvV ν v = some u ∧ ∀ w, (Instr.sliceAt t a vlo vhi vmx).run P w = .ok u w := by
  unfold aSlice at e
  split at e
  · rename_i s hu
    obtain rfl := str_of ha
    cases mx with
    | some _ => simp at e
    | none =>
      cases vmx with
      | some _ => exact r3.elim
      | none =>
        simp only at e
        cases hb : aBounds s.length s.length lo hi none with
        | none => simp [hb] at e
        | some q =>
          obtain ⟨l, h, m⟩ := q
          simp only [hb, Option.some.injEq] at e
          subst e
          refine ⟨_, rfl, fun w => ?_⟩
          have hr := aBounds_ok (P := P) (ν := ν) (isSlice := false) hb (Nat.le_refl _) r1 r2 (vmx := none) trivial w
          simp only [if_true] at hr
          have hs : (ByteArray.mk s.toArray).size = s.length := rfl
          simp only [Instr.sliceAt, Instr.slice, Sem.run_bind, run_underlying hu, Result.andThen_ok, Option.isSome_none, Bool.false_eq_true, if_false, hs, hr, Sem.run_pure]
          congr 2
          apply ByteArray.ext
          apply Array.ext'
          simp [ByteArray.data_extract, List.extract_eq_take_drop]
  · rename_i elem hu
    obtain rfl := nsl_of ha
    cases hz : sizeT P elem with
    | none => simp [hz] at e
    | some z =>
      simp only [hz] at e
      cases hb : aBounds 0 0 lo hi mx with
      | none => simp [hb] at e
      | some q =>
        obtain ⟨l, h, m⟩ := q
        simp only [hb, beq_dec] at e
        by_cases hl : l = 0
        · by_cases hh : h = 0
          · by_cases hm : roomOf 0 m mx = 0
            · simp only [hl, hh, hm, decide_true, Bool.and_self, cond_true, Option.some.injEq] at e
              subst e
              refine ⟨_, rfl, fun w => ?_⟩
              have hr := aBounds_ok (P := P) (ν := ν) (isSlice := true) hb (Nat.le_refl _) r1 r2 r3 w
              rw [← roomOf_eq, hm] at hr
              simp [Instr.sliceAt, Instr.slice, run_underlying hu, hr, sizeT_run hz, hl, hh]
            · simp [hm] at e
          · simp [hh] at e
        · simp [hl] at e
  · rename_i elem n off len c o hu
    obtain ⟨y, hy, rfl⟩ := sl_of ha
    cases hz : sizeT P elem with
    | none => simp [hz] at e
    | some z =>
      simp only [hz] at e
      cases hb : aBounds len c lo hi mx with
      | none => simp [hb] at e
      | some q =>
        obtain ⟨l, h, m⟩ := q
        have hcap : c ≤ cond o (c + y.2) c := by cases o <;> simp
        have hr := fun w => aBounds_ok (P := P) (ν := ν) (isSlice := true) hb hcap r1 r2 r3 w
        simp only [hb, ble_dec, beq_dec] at e
        cases hlh : (decide (l ≤ h) && decide (h ≤ roomOf c m mx)) with
        | false => simp [hlh] at e
        | true =>
          simp only [hlh, cond_true] at e
          simp only [Bool.and_eq_true, decide_eq_true_eq] at hlh
          obtain ⟨h1, h2⟩ := hlh
          cases hom : (o && mx.isNone) with
          | true =>
            simp only [Bool.and_eq_true, Option.isNone_iff_eq_none] at hom
            obtain ⟨ho, hmx⟩ := hom
            subst ho; subst hmx
            simp only [roomOf] at h2
            simp only [Option.isNone_none, Bool.and_self, cond_true] at e
            simp only [cond_true, if_true] at hr
            by_cases hlc : l = c
            · simp only [hlc, decide_true, cond_true, Option.some.injEq] at e
              subst e
              refine ⟨_, se_mk off (c * z) hy, fun w => ?_⟩
              have hh : h = c := by omega
              simp only [Instr.sliceAt, Instr.slice, Sem.run_bind, run_underlying hu, Result.andThen_ok, cond_true, hr, sizeT_run hz, Sem.run_pure, hlc, hh]
              by_cases hy2 : y.2 = 0
              · simp [hy2]
              · have : ¬ c + y.2 = c := by omega
                simp [hy2]
            · simp only [hlc, decide_false, cond_false, Option.some.injEq] at e
              subst e
              refine ⟨_, sl_mk _ _ _ _ hy, fun w => ?_⟩
              have hne : ¬ c + y.2 = l := by omega
              simp only [Instr.sliceAt, Instr.slice, Sem.run_bind, run_underlying hu, Result.andThen_ok, cond_true, hr, sizeT_run hz, Sem.run_pure, if_neg hne, Option.map_some, add_addr]
              have : c + y.2 - l = c - l + y.2 := by omega
              rw [this]
          | false =>
            simp only [hom, cond_false, Option.some.injEq] at e
            subst e
            refine ⟨_, sl_mk _ _ _ _ hy, fun w => ?_⟩
            have hm : (if mx = none then (cond o (c + y.2) c) else m) = roomOf c m mx := by
              cases mx with
              | none => simp only [Option.isNone_none, Bool.and_true] at hom; subst hom; simp [roomOf]
              | some _ => simp [roomOf]
            simp only [hm] at hr
            simp only [Instr.sliceAt, Instr.slice, Sem.run_bind, run_underlying hu, Result.andThen_ok, hr, sizeT_run hz, Sem.run_pure, cond_false]
            by_cases hml : roomOf c m mx = l
            · simp [hml]
            · simp [hml, add_addr]
  · rename_i n elem b off hu
    obtain ⟨y, hy, rfl⟩ := ptr_of ha
    cases hz : sizeT P elem with
    | none => simp [hz] at e
    | some z =>
      simp only [hz] at e
      cases hb : aBounds n n lo hi mx with
      | none => simp [hb] at e
      | some q =>
        obtain ⟨l, h, m⟩ := q
        have hr := fun w => aBounds_ok (P := P) (ν := ν) (isSlice := false) hb (Nat.le_refl _) r1 r2 r3 w
        simp only [← roomOf_eq] at hr
        simp only [hb, beq_dec, Option.some.injEq] at e
        subst e
        refine ⟨_, sl_mk _ _ _ _ hy, fun w => ?_⟩
        simp only [Instr.sliceAt, Sem.run_bind, run_underlying hu, Result.andThen_ok, Instr.sureAddr, Sem.run_pure, hr, sizeT_run hz, cond_false]
        by_cases hml : roomOf n m mx = l
        · simp [hml]
        · simp [hml, add_addr]
  · cases e

/-! ### Structs and arrays that are built -/

theorem put_cells (cs : Array Value) (off : Nat) : ∀ (vs : List Value) (j : Nat) (pre : Array Value), pre.size = cs.size → off + j + vs.length ≤ cs.size →
    ((vs.zipIdx j).foldl (fun (cs : Array Value) (p : Value × Nat) => cs.setIfInBounds (off + p.2) p.1) pre).toList = pre.toList.take (off + j) ++ (vs ++ pre.toList.drop (off + j + vs.length))
  | [], j, pre, _, _ => by simp
  | v :: vs, j, pre, hp, h => by
    simp only [List.length_cons] at h
    simp only [List.zipIdx_cons, List.foldl_cons]
    rw [put_cells cs off vs (j + 1) _ (by rw [Array.size_setIfInBounds]; exact hp) (by omega)]
    simp only [Array.toList_setIfInBounds]
    have h1 : off + (j + 1) = off + j + 1 := by omega
    have h2 : off + j < pre.toList.length := by rw [Array.length_toList]; omega
    rw [h1, List.take_add_one]
    have h3 : (pre.toList.set (off + j) v)[off + j]? = some v := by rw [List.getElem?_set_self h2]
    rw [h3, List.take_set_of_le (Nat.le_refl _), List.drop_set_of_lt (by omega)]
    simp only [Option.toList_some, List.append_assoc, List.length_cons, List.cons_append, List.nil_append]
    have h4 : off + j + 1 + vs.length = off + j + (vs.length + 1) := by omega
    rw [h4]

theorem cells_w {x : W} {v : Value} (h : cvW ν x = some v) : v.cells.size = x.cells.length := by
  have := cvL_length (cells_cv h)
  simpa using this

theorem aFill_ok {place : Nat → Option (Nat × Nat)} : ∀ {parts : List (Nat × V)} {ps : List (Nat × Value)} {cells : List S} {cs : Array Value} {out : List S},
    aFill place cells parts = some out → cvL ν cells = some cs.toList → parts.map (fun p => (p.1, cvV ν p.2)) = ps.map (fun p => (p.1, some p.2)) →
    ∃ us : Array Value, Instr.fill place cs ps = some us ∧ cvL ν out = some us.toList
  | [], ps, cells, cs, out, h, hc, hp => by
    simp only [aFill, Option.some.injEq] at h
    subst h
    cases ps with
    | nil => exact ⟨cs, rfl, hc⟩
    | cons p ps => simp at hp
  | (i, v) :: parts, ps, cells, cs, out, h, hc, hp => by
    cases ps with
    | nil => simp at hp
    | cons p ps =>
      obtain ⟨i', u⟩ := p
      simp only [List.map_cons, List.cons.injEq, Prod.mk.injEq] at hp
      obtain ⟨⟨rfl, hv⟩, hp⟩ := hp
      simp only [aFill] at h
      split at h
      · rename_i off z x hpl
        cases hcond : (Nat.beq x.cells.length z && Nat.ble (off + z) cells.length) with
        | false => simp [hcond] at h
        | true =>
          simp only [hcond, cond_true] at h
          simp only [beq_dec, ble_dec, Bool.and_eq_true, decide_eq_true_eq] at hcond
          obtain ⟨h1, h2⟩ := hcond
          have hu : cvW ν x = some u := hv
          have hsz := cells_w hu
          have hlen := cvL_length hc
          have hcell : cvL ν (cells.take off ++ (x.cells ++ cells.drop (off + z))) = some ((u.cells.zipIdx.foldl (fun (cs : Array Value) (p : Value × Nat) => cs.setIfInBounds (off + p.2) p.1) cs)).toList := by
            rw [← Array.foldl_toList, Array.toList_zipIdx]
            rw [put_cells cs off u.cells.toList 0 cs rfl (by simp at hlen ⊢; omega)]
            have e1 : off + 0 = off := by omega
            have e2 : u.cells.toList.length = z := by simp; omega
            rw [e1, e2]
            exact cvL_append (cvL_take off hc) (cvL_append (cells_cv hu) (cvL_drop (off + z) hc))
          obtain ⟨us, h3, h4⟩ := aFill_ok h hcell hp
          refine ⟨us, ?_, h4⟩
          simp only [Instr.fill, hpl]
          have hno : ¬ (u.cells.size ≠ z ∨ off + u.cells.size > cs.size) := by
            simp at hlen
            omega
          rw [if_neg (by simpa using hno)]
          exact h3
      · cases h

theorem fields_places (fs : Array Field) (hs : sized P fs = true) (w : World) :
    ∃ pl : Array (Nat × Nat), (fs.mapM (m := Sem) fun f => do pure (f.offset, ← sizeOf f.type)).run P w = .ok pl w ∧ ∀ i, pl[i]? = placeOf P fs i := by
  have key : ∀ (l : List Field), (l.all fun f => (sizeT P f.type).isSome) = true → ∃ pl : List (Nat × Nat), (l.mapM (m := Sem) fun f => do pure (f.offset, ← sizeOf f.type)).run P w = .ok pl w ∧
      ∀ i : Nat, pl[i]? = (match l[i]? with | some f => (sizeT P f.type).map fun z => (f.offset, z) | none => none) := by
    intro l
    induction l with
    | nil => intro _; exact ⟨[], by simp, fun i => by simp⟩
    | cons f l ih =>
      intro h
      simp only [List.all_cons, Bool.and_eq_true] at h
      obtain ⟨pl, h1, h2⟩ := ih h.2
      cases hz : sizeT P f.type with
      | none => simp [hz] at h
      | some z =>
        refine ⟨(f.offset, z) :: pl, ?_, fun i => ?_⟩
        · simp only [List.mapM_cons, Sem.run_bind, sizeT_run hz, Result.andThen_ok, Sem.run_pure, h1]
        · cases i with
          | zero => simp [hz]
          | succ i => simpa using h2 i
  obtain ⟨pl, h1, h2⟩ := key fs.toList hs
  refine ⟨pl.toArray, ?_, fun i => ?_⟩
  · rw [Array.mapM_eq_mapM_toList, Sem.run_map, h1]
    rfl
  · have := h2 i
    rw [List.getElem?_toArray, this]
    unfold placeOf
    rw [← Array.getElem?_toList]
    cases fs.toList[i]? <;> rfl

theorem aBuild_ok {t : TypeId} {parts : List (Nat × V)} {ps : Array (Nat × Value)} {v : V} (h : aBuild P t parts = some v) (hp : parts.map (fun p => (p.1, cvV ν p.2)) = ps.toList.map (fun p => (p.1, some p.2))) :
    ∃ u, cvV ν v = some u ∧ ∀ w, (Instr.build t ps).run P w = .ok u w := by
  unfold aBuild at h
  split at h
  · rename_i fs z hu hz
    cases hs : sized P fs with
    | false => simp [hs] at h
    | true =>
      simp only [hs, cond_true] at h
      cases hf : aFill (placeOf P fs) z parts with
      | none => simp [hf] at h
      | some out =>
        simp only [hf, Option.map_some, Option.some.injEq] at h
        subst h
        obtain ⟨zv, hz1, hz2⟩ := zeroC_run hz
        obtain ⟨us, h1, h2⟩ := aFill_ok hf (hz2 ν) hp
        refine ⟨_, agg_mk h2, fun w => ?_⟩
        obtain ⟨pl, hp1, hp2⟩ := fields_places (P := P) fs hs w
        have he : (fun i => pl[i]?) = placeOf P fs := funext hp2
        simp only [Instr.build, Sem.run_bind, hz1, Result.andThen_ok, run_underlying hu, hp1]
        rw [he, h1]
        simp
  · rename_i n elem z hu hz
    cases hs : sizeT P elem with
    | none => simp [hs] at h
    | some s =>
      simp only [hs] at h
      cases hf : aFill (fun i => some (i * s, s)) z parts with
      | none => simp [hf] at h
      | some out =>
        simp only [hf, Option.map_some, Option.some.injEq] at h
        subst h
        obtain ⟨zv, hz1, hz2⟩ := zeroC_run hz
        obtain ⟨us, h1, h2⟩ := aFill_ok hf (hz2 ν) hp
        refine ⟨_, agg_mk h2, fun w => ?_⟩
        simp only [Instr.build, Sem.run_bind, hz1, Result.andThen_ok, run_underlying hu, sizeT_run hs]
        rw [h1]
        simp
  · cases h

/-! ### Closures, interfaces -/

theorem asC_ok {x : V} {c : C} {v : Value} (h : asC x = some c) (hv : cvV ν x = some v) : cvC ν c = some v := by
  unfold asC at h
  split at h
  · simp only [Option.some.injEq] at h
    subst h
    obtain ⟨y, hy, rfl⟩ := ptr_of hv
    simp [cvC, hy]
  · simp only [Option.some.injEq] at h
    subst h
    obtain rfl := int_of hv
    rfl
  · cases h

theorem asCs_ok : ∀ {l : List V} {cs : List C} {vs : List Value}, asCs l = some cs → l.map (cvV ν) = vs.map some → cvCs ν cs = some vs
  | [], cs, vs, h, hv => by
    simp only [asCs, Option.some.injEq] at h
    subst h
    cases vs with
    | nil => rfl
    | cons _ _ => simp at hv
  | x :: l, cs, vs, h, hv => by
    cases vs with
    | nil => simp at hv
    | cons v vs =>
      simp only [List.map_cons, List.cons.injEq] at hv
      simp only [asCs] at h
      cases h1 : asC x with
      | none => simp [h1] at h
      | some c =>
        cases h2 : asCs l with
        | none => simp [h1, h2] at h
        | some ds =>
          simp only [h1, h2, Option.some.injEq] at h
          subst h
          simp [cvCs, asC_ok h1 hv.1, asCs_ok h2 hv.2]

theorem aMakeInterface_ok {t : TypeId} {vx v : V} {a : Value} (h : aMakeInterface P t vx = some v) (ha : cvV ν vx = some a) : ∃ u, cvV ν v = some u ∧ ∀ w, (Instr.makeInterface t a).run P w = .ok u w := by
  unfold aMakeInterface at h
  split at h
  · cases h
  · rename_i d hd hu
    cases hc : asC vx with
    | none => simp [hc] at h
    | some c =>
      simp only [hc, Option.map_some, Option.some.injEq] at h
      subst h
      refine ⟨.iface t a, by simp [cvV, cvW, cvS, asC_ok hc ha], fun w => ?_⟩
      simp only [Instr.makeInterface, Sem.run_bind, run_underlying hu, Result.andThen_ok]
      rfl
  · cases h

theorem evs_opt {f : F} {a : Act} (r : FR ν f a.tmps) {x : Option Operand} {l : List V} (h : f.evs x.toList = some l) : OptR ν l.head? (x.map a.eval) := by
  have hm := evs_map r h
  cases x with
  | none =>
    cases l with
    | nil => trivial
    | cons _ _ => simp at hm
  | some x =>
    cases l with
    | nil => simp at hm
    | cons v l =>
      simp only [Option.toList_some, List.map_cons, List.map_nil, List.cons.injEq] at hm
      exact hm.1

theorem args_of {f : F} {a : Act} (r : FR ν f a.tmps) {xs : Array Operand} {l : List V} (h : f.evs xs.toList = some l) : l.map (cvV ν) = (xs.map a.eval).toList.map some := by
  rw [evs_map r h]; simp

theorem pure_ok {f : F} {a : Act} (r : FR ν f a.tmps) {o : Oper} {v : V} (h : aPure P f o.op = some v) : ∃ u, cvV ν v = some u ∧ ∀ w, (execOp a.eval o).run P w = .ok (.value u) w := by
  obtain ⟨dst, op, ty, pos, af, gd⟩ := o
  simp only at h
  unfold aPure at h
  split at h
  · exact ⟨_, ev_ok r h, fun w => by simp [execOp]⟩
  · exact ⟨_, ev_ok r h, fun w => by simp [execOp]⟩
  · rename_i c x y
    split at h
    · rename_i t ht
      have hc := bool_of (ev_ok r ht)
      split at h
      · rename_i va vb h1 h2
        simp only [Option.some.injEq] at h
        subst h
        cases t with
        | true => exact ⟨_, ev_ok r h1, fun w => by simp [execOp, hc, asBool]⟩
        | false => exact ⟨_, ev_ok r h2, fun w => by simp [execOp, hc, asBool]⟩
      · cases h
    · cases h
  · rename_i op t x y yt
    split at h
    · rename_i va vb h1 h2
      obtain ⟨u, hu, hr⟩ := aBin_ok h (ev_ok r h1) (ev_ok r h2)
      exact ⟨u, hu, fun w => by simp only [execOp, Sem.run_bind]; have := hr w; simp only [Sem.run_bind] at this; rw [this]; rfl⟩
    · cases h
  · rename_i op t x
    split at h
    · rename_i va h1
      obtain ⟨u, hu, hr⟩ := aUn_ok (P := P) h (ev_ok r h1)
      exact ⟨u, hu, fun w => by simp [execOp, hr]⟩
    · cases h
  · rename_i s d x
    split at h
    · rename_i va h1
      obtain ⟨u, hu, hr⟩ := aConv_ok h (ev_ok r h1)
      exact ⟨u, hu, fun w => by simp [execOp, hr]⟩
    · cases h
  · rename_i s x fi
    split at h
    · rename_i va h1
      obtain ⟨u, hu, hr⟩ := aFieldAddr_ok h (ev_ok r h1)
      exact ⟨u, hu, fun w => by simp [execOp, hr]⟩
    · cases h
  · rename_i t x fi
    split at h
    · rename_i va h1
      obtain ⟨u, hu, hr⟩ := aField_ok h (ev_ok r h1)
      exact ⟨u, hu, fun w => by simp [execOp, hr]⟩
    · cases h
  · rename_i t x i
    split at h
    · rename_i va vb h1 h2
      obtain ⟨u, hu, hr⟩ := aIndexAddr_ok h (ev_ok r h1) (ev_ok r h2)
      exact ⟨u, hu, fun w => by simp [execOp, hr]⟩
    · cases h
  · rename_i t x i
    split at h
    · rename_i va vb h1 h2
      obtain ⟨u, hu, hr⟩ := aIndex_ok h (ev_ok r h1) (ev_ok r h2)
      exact ⟨u, hu, fun w => by simp [execOp, hr]⟩
    · cases h
  · rename_i t x lo hi mx
    split at h
    · rename_i va h1
      split at h
      · rename_i l1 l2 l3 e1 e2 e3
        obtain ⟨u, hu, hr⟩ := aSlice_ok h (ev_ok r h1) (evs_opt r e1) (evs_opt r e2) (evs_opt r e3)
        exact ⟨u, hu, fun w => by simp [execOp, hr]⟩
      · cases h
    · cases h
  · rename_i x i
    split at h
    · rename_i va h1
      obtain ⟨u, hu, hr⟩ := aExtract_ok (P := P) h (ev_ok r h1)
      exact ⟨u, hu, fun w => by simp [execOp, hr]⟩
    · cases h
  · rename_i t ps
    split at h
    · rename_i l h1
      have h2 := evp_ok r h1
      obtain ⟨u, hu, hr⟩ := aBuild_ok (ps := ps.map fun (i, x) => (i, a.eval x)) h (by rw [h2]; simp)
      exact ⟨u, hu, fun w => by simp [execOp, hr]⟩
    · cases h
  · rename_i t x
    split at h
    · rename_i va h1
      obtain ⟨u, hu, hr⟩ := aMakeInterface_ok h (ev_ok r h1)
      exact ⟨u, hu, fun w => by simp [execOp, hr]⟩
    · cases h
  · rename_i g first captured
    split at h
    · rename_i l hfirst h1
      split at h
      · rename_i cs hcs
        simp only [Option.some.injEq] at h
        subst h
        have h2 := asCs_ok hcs (args_of r h1)
        have hf : first = #[] := by apply Array.ext'; simpa using hfirst
        refine ⟨.func (.func g) #[] (captured.map a.eval), ?_, fun w => by simp [execOp, Instr.makeFunc, hf]⟩
        simp only [cvV, cvW, cvS, h2, Array.toArray_toList]
      · cases h
    · cases h
  · rename_i x
    split at h
    · rename_i va h1
      exact aNilCheck_ok h (ev_ok r h1) x a.eval rfl dst ty pos af gd
    · cases h
  · rename_i b args argTypes
    split at h
    · rename_i l t ts h1 h2
      have hargs := args_of r h1
      have hts : argTypes[0]? = some t := by rw [← Array.getElem?_toList, h2]; rfl
      split at h
      · rename_i x
        obtain ⟨v1, hv, hx⟩ := one_of hargs
        obtain ⟨u, hu, hr⟩ := aLen_ok (ty := ty) h hx hts
        have he : args.map a.eval = #[v1] := by apply Array.ext'; simpa using hv
        exact ⟨u, hu, fun w => by simp [execOp, resolve, invoke, builtin, he, hr]⟩
      · rename_i x
        obtain ⟨v1, hv, hx⟩ := one_of hargs
        obtain ⟨u, hu, hr⟩ := aCap_ok (ty := ty) h hx hts
        have he : args.map a.eval = #[v1] := by apply Array.ext'; simpa using hv
        exact ⟨u, hu, fun w => by simp [execOp, resolve, invoke, builtin, he, hr]⟩
      · obtain ⟨u, hu, hr⟩ := aMin2_ok (P := P) (ts := argTypes) (ty := ty) h hargs
        exact ⟨u, hu, fun w => by simp [execOp, resolve, invoke, builtin, hr]⟩
      · obtain ⟨u, hu, hr⟩ := aMax2_ok (P := P) (ts := argTypes) (ty := ty) h hargs
        exact ⟨u, hu, fun w => by simp [execOp, resolve, invoke, builtin, hr]⟩
      · cases h
    · cases h
  · cases h

end
end Ai
end Go.Proofs.YtjmhkcfdmcjilaaGreat
