/-
  Operations upon memory.
-/
import Derived.Test.YtjmhkcfdmcjilaaGreatAiG
import Derived.Laws.BytesString
import Derived.MapKept
namespace Go.Proofs.YtjmhkcfdmcjilaaGreat
namespace Ai
open Go.RowKit
section
variable {P : Program} {B0 : Nat} {W0 : World} {ν : Nu} {h : H} {w : World}

/-! ### Rows -/

theorem RowR_cells {k : Nat} {t : Tr S} {cur : Array Value} (r : RowR ν k t cur) {off n : Nat} (hn : off + n ≤ k) (ho : okL (t.cells off n) = true) :
    ∃ vs, cvL ν (t.cells off n) = some vs ∧ vs.length = n ∧ ∀ j v, vs[j]? = some v → cur[off + j]? = some v := by
  have hok : ∀ {l : List S}, okL l = true → ∀ (i : Nat) x, l[i]? = some x → okS x = true := by
    intro l
    induction l with
    | nil => intro _ i x hx; simp at hx
    | cons y l ih =>
      intro hl i x hx
      simp only [okL, Bool.and_eq_true] at hl
      cases i with
      | zero => simp only [List.getElem?_cons_zero, Option.some.injEq] at hx; subst hx; exact hl.1
      | succ i => exact ih hl.2 i x (by simpa using hx)
  have hcell : ∀ i, i < n → ∃ v, cur[off + i]? = some v ∧ cvS ν (t.get (off + i)) = some v := fun i hi => by
    have h1 := Tr.get_cells t n off i
    rw [if_pos hi] at h1
    have h2 := hok ho i _ h1
    rcases r.2 (off + i) (by omega) with h3 | h3
    · rw [h3] at h2; cases h2
    · exact h3
  obtain ⟨vs, hvs⟩ := cvL_of (ν := ν) (t.cells off n) (fun i x hx => by
    have hlt : i < n := by
      have := (List.getElem?_eq_some_iff.1 hx).1
      rwa [Tr.length_cells] at this
    have h1 := Tr.get_cells t n off i
    rw [if_pos hlt, hx] at h1
    obtain ⟨v, _, h3⟩ := hcell i hlt
    exact ⟨v, by rw [Option.some.inj h1]; exact h3⟩)
  have hlen : vs.length = n := by rw [cvL_length hvs, Tr.length_cells]
  refine ⟨vs, hvs, hlen, fun j v hv => ?_⟩
  have hlt : j < n := by rw [← hlen]; exact (List.getElem?_eq_some_iff.1 hv).1
  obtain ⟨u, h2, h3⟩ := hcell j hlt
  have h4 := cvL_get hvs j
  rw [Tr.get_cells, if_pos hlt, hv] at h4
  simp only [Option.bind_some, h3] at h4
  rw [h2, ← h4]

theorem RowR_write {k : Nat} {t : Tr S} {cur : Array Value} (r : RowR ν k t cur) (hk : k ≤ cur.size) {off : Nat} {l : List S} {vs : List Value} (hl : cvL ν l = some vs) (hn : off + l.length ≤ k) :
    RowR ν k (t.write off l) (cur.toList.take off ++ vs ++ cur.toList.drop (off + vs.length)).toArray := by
  have hlen := cvL_length hl
  refine ⟨r.1, fun i hi => ?_⟩
  rw [Tr.get_write l t off (Nat.le_trans hn r.1)]
  have hget : (cur.toList.take off ++ vs ++ cur.toList.drop (off + vs.length)).toArray[i]? =
      if off ≤ i then (match vs[i - off]? with | some v => some v | none => cur[i]?) else cur[i]? := by
    rw [List.getElem?_toArray, List.append_assoc]
    have hoff : (cur.toList.take off).length = off := by simp; omega
    by_cases h1 : off ≤ i
    · rw [if_pos h1, List.getElem?_append_right (by omega), hoff]
      by_cases h2 : i - off < vs.length
      · rw [List.getElem?_append_left h2, List.getElem?_eq_getElem h2]
      · rw [List.getElem?_append_right (by omega), List.getElem?_eq_none (by omega : vs.length ≤ i - off)]
        rw [List.getElem?_drop]
        have : off + vs.length + (i - off - vs.length) = i := by omega
        rw [this]
        simp
    · rw [if_neg h1, List.getElem?_append_left (by omega), List.getElem?_take_of_lt (by omega)]
      simp
  rw [hget]
  by_cases h1 : off ≤ i
  · rw [if_pos h1, if_pos h1]
    have h2 := cvL_get hl (i - off)
    cases hx : l[i - off]? with
    | none => rw [hx] at h2; rw [h2]; exact r.2 i hi
    | some x =>
      rw [hx] at h2
      cases hv : vs[i - off]? with
      | none =>
        have h3 : i - off < l.length := (List.getElem?_eq_some_iff.1 hx).1
        rw [List.getElem?_eq_getElem (by omega)] at hv
        cases hv
      | some v =>
        rw [hv] at h2
        exact .inr ⟨v, rfl, by simpa using h2.symm⟩
  · rw [if_neg h1, if_neg h1]
    exact r.2 i hi

/-- A row that is new. -/
theorem RowR_list {l : List S} {vs : List Value} (hl : cvL ν l = some vs) (hn : l.length ≤ top) {t : Tr S} (ht : ∀ (i : Nat) x, l[i]? = some x → t.get i = x) (rest : List Value) :
    RowR ν l.length t (vs ++ rest).toArray := by
  refine ⟨hn, fun i hi => ?_⟩
  rw [ht i _ (List.getElem?_eq_getElem hi)]
  have h2 := cvL_get hl i
  have hlen := cvL_length hl
  rw [List.getElem?_eq_getElem hi] at h2
  rw [List.getElem?_eq_getElem (by omega)] at h2
  simp only [Option.bind_some] at h2
  exact .inr ⟨vs[i]'(by omega), by rw [List.getElem?_toArray, List.getElem?_append_left (by omega), List.getElem?_eq_getElem], h2.symm⟩

theorem get_fresh {l : List S} (hn : l.length ≤ top) (d : S) (i : Nat) (x : S) (hx : l[i]? = some x) : ((Tr.leaf d).write 0 l).get i = x := by
  rw [Tr.get_write l _ 0 (by omega), if_pos (Nat.zero_le i)]
  simp [hx]

theorem get_made {zs : List S} {c : Nat} (hn : ((List.replicate c zs).flatten).length ≤ top) (i : Nat) (x : S) (hx : ((List.replicate c zs).flatten)[i]? = some x) : (madeRow zs c).get i = x := by
  unfold madeRow
  split
  · rename_i y
    rw [Tr.get_leaf]
    have : x ∈ (List.replicate c [y]).flatten := List.mem_of_getElem? hx
    simp only [List.mem_flatten, List.mem_replicate] at this
    obtain ⟨l, ⟨_, rfl⟩, h2⟩ := this
    exact (List.mem_singleton.1 h2).symm
  · exact get_fresh hn .ni i x hx

theorem cell_at {b : Nat} {cur : Array Value} {e : TypeId} (hb : w.heap[b]? = some (.cells cur e (0, 0))) (i : Nat) : w.cell? ⟨b, i, none⟩ = cur[i]? := by
  simp [World.cell?, hb]

theorem load_ok (g : Ga B0 W0 ν h w) {t : TypeId} {vx v : V} {a : Value} (e : aLoad P h t vx = some v) (ha : cvV ν vx = some a) :
    ∃ u, cvV ν v = some u ∧ (Instr.loadAt t a).run P w = .ok u w := by
  unfold aLoad at e
  split at e
  · rename_i n off
    obtain ⟨y, hy, rfl⟩ := ptr_of ha
    split at e
    · rename_i k r el z o hn
      obtain ⟨b, sl, cur, h1, _, _, h4, h5, h6, _⟩ := g.row hn
      rw [hy] at h1
      obtain rfl : y = (b, sl) := Option.some.inj h1
      split at e
      · rename_i s hag hz
        cases hc : (Nat.ble (off + s) k && okL (r.cells off s)) with
        | false => simp [hc] at e
        | true =>
          simp only [hc, cond_true, Option.some.injEq] at e
          subst e
          simp only [Bool.and_eq_true] at hc
          obtain ⟨vs, k1, k2, k3⟩ := RowR_cells h5 (Nat.le_of_ble_eq_true hc.1) hc.2
          refine ⟨_, agg_mk k1, ?_⟩
          have hl := run_loadCells_list (P := P) w ⟨b, off, none⟩ vs (fun j v hv => by rw [add_addr, cell_at h4]; exact k3 j v hv)
          rw [k2] at hl
          simp [Instr.loadAt, Instr.sureAddr, loadVar, isAggT_run hag, sizeT_run hz, hl]
      · rename_i s hag hz
        cases hc : (Nat.blt off k && okS (r.get off)) with
        | false => simp [hc] at e
        | true =>
          simp only [hc, cond_true, Option.some.injEq] at e
          subst e
          simp only [Bool.and_eq_true] at hc
          have hlt : off < k := Nat.le_of_ble_eq_true hc.1
          rcases h5.2 off hlt with hx | ⟨v, k1, k2⟩
          · rw [hx] at hc; simp [okS] at hc
          · refine ⟨v, k2, ?_⟩
            have hcell : w.cell? ⟨b, off, none⟩ = some v := by rw [cell_at h4]; exact k1
            simp [Instr.loadAt, Instr.sureAddr, loadVar, isAggT_run hag, hcell]
      · cases e
    · cases e
  · cases e

theorem store_ok (g : Ga B0 W0 ν h w) {t : TypeId} {vx vv : V} {a u : Value} {h' : H} (e : aStore P h t vx vv = some h') (ha : cvV ν vx = some a) (hu : cvV ν vv = some u) :
    ∃ w', (Instr.storeAt t a u).run P w = .ok () w' ∧ Ga B0 W0 ν h' w' := by
  unfold aStore at e
  split at e
  · rename_i n off x
    obtain ⟨y, hy, rfl⟩ := ptr_of ha
    split at e
    · rename_i k r el z o s hn hz
      obtain ⟨b, sl, cur, h1, _, _, h4, h5, h6, _⟩ := g.row hn
      rw [hy] at h1
      obtain rfl : y = (b, sl) := Option.some.inj h1
      cases hc : (Nat.beq x.cells.length s && Nat.ble (off + s) k) with
      | false => simp [hc] at e
      | true =>
        simp only [hc, cond_true, Option.some.injEq] at e
        subst e
        simp only [Bool.and_eq_true] at hc
        have hs : x.cells.length = s := Nat.eq_of_beq_eq_true hc.1
        have hk : off + s ≤ k := Nat.le_of_ble_eq_true hc.2
        have hcv := cells_cv (show cvW ν x = some u from hu)
        have hsz := cells_w (show cvW ν x = some u from hu)
        have hfit : off + 0 + u.cells.toList.length ≤ cur.size := by rw [Array.length_toList]; omega
        have hst := run_storeCells_at P b off el u.cells.toList 0 cur w h4 hfit (cvL_one hcv)
        have hrow := RowR_write (off := off) h5 (by omega) hcv (by omega)
        refine ⟨_, ?_, g.setRow hn hy h4 hrow ?_⟩
        · have hne : ¬ u.cells.size ≠ s := by omega
          simp only [Instr.storeAt, Instr.sureAddr, Sem.run_bind, Sem.run_pure, Result.andThen_ok, storeVar, sizeT_run hz, if_neg hne, hst, Nat.add_zero]
        · have : u.cells.toList.length = u.cells.size := Array.length_toList
          simp; omega
    · cases e
  · cases e

/-- A row of cells that are given. -/
theorem newRow_ok (g : Ga B0 W0 ν h w) {el z n k : Nat} {cells : List S} {vs : List Value} {h' : H} (hcv : cvL ν cells = some vs) (hk : cells.length = k) (ht : k ≤ top) {t : Tr S}
    (hget : ∀ (i : Nat) x, cells[i]? = some x → t.get i = x) (o : Bool) (sl : Nat) (rest : List Value)
    (hrest : rest.length = sl * z) (ho : o = false → sl = 0) (hh : h.new (.row k t el z o) = some (n, h')) :
    ∃ ν', ν.le ν' ∧ ν' n = some (w.heap.size, sl) ∧ Ga B0 W0 ν' h' (w.alloc (.cells (vs ++ rest).toArray el)) := by
  have hlen := cvL_length hcv
  have hr := RowR_list hcv (by omega) hget rest
  rw [hk] at hr
  obtain ⟨h1, h2⟩ := g.new hh (by simp) sl (.cells (vs ++ rest).toArray el) ⟨_, rfl, hr, by simp; omega, ho⟩
  exact ⟨_, h1, by simp [Nu.upd], h2⟩

theorem aNew_ok (g : Ga B0 W0 ν h w) {el : TypeId} {x : W} {u : Value} {v : V} {h' : H} (e : aNew P h el x.cells = some (v, h')) (hu : cvW ν x = some u) :
    ∃ p ν' w', (newVar el u).run P w = .ok p w' ∧ ν.le ν' ∧ Ga B0 W0 ν' h' w' ∧ cvV ν' v = some (.pointer (some p)) := by
  unfold aNew at e
  cases hz : sizeT P el with
  | none => simp [hz] at e
  | some z =>
    simp only [hz] at e
    cases hc : Nat.blt x.cells.length top with
    | false => simp [hc] at e
    | true =>
      simp only [hc, cond_true] at e
      cases hh : h.new (.row x.cells.length (Tr.write (.leaf .ni) 0 x.cells) el z false) with
      | none => simp [hh] at e
      | some q =>
        obtain ⟨n, h1⟩ := q
        simp only [hh, Option.some.injEq, Prod.mk.injEq] at e
        obtain ⟨rfl, rfl⟩ := e
        obtain ⟨ν', k1, k2, k3⟩ := newRow_ok g (cells_cv hu) rfl (Nat.le_of_lt (Nat.le_of_ble_eq_true hc)) (get_fresh (Nat.le_of_lt (Nat.le_of_ble_eq_true hc)) .ni) false 0 [] (by simp) (fun _ => rfl) hh
        simp only [List.append_nil, Array.toArray_toList] at k3
        exact ⟨⟨w.heap.size, 0, none⟩, ν', w.alloc (.cells u.cells el), by simp [newVar, newRow], k1, k3, ptr_mk 0 k2⟩

theorem made_eq (z : Array Value) (n : Nat) : madeCells z (n * z.size) = ((List.replicate n z.toList).flatten).toArray := by
  apply Array.ext
  · simp [madeCells]
  · intro i h1 h2
    simp only [size_madeCells] at h1
    have hz : 0 < z.size := by rcases Nat.eq_zero_or_pos z.size with h | h <;> simp_all
    have key : ∀ (n i : Nat), i < n * z.size → ((List.replicate n z.toList).flatten)[i]? = z[i % z.size]? := by
      intro n
      induction n with
      | zero => intro i hi; simp at hi
      | succ n ih =>
        intro i hi
        simp only [List.replicate_succ, List.flatten_cons]
        by_cases hlt : i < z.size
        · rw [List.getElem?_append_left (by simpa using hlt), Nat.mod_eq_of_lt hlt, Array.getElem?_toList]
        · rw [List.getElem?_append_right (by simpa using hlt)]
          simp only [Array.length_toList]
          rw [ih (i - z.size) (by rw [Nat.succ_mul] at hi; omega)]
          congr 1
          rw [← Nat.mod_eq_sub_mod (by omega)]
    have h3 := key n i h1
    have h4 : i % z.size < z.size := Nat.mod_lt _ hz
    simp only [madeCells, Array.getElem_map, Array.getElem_range]
    rw [getElem!_pos z _ h4]
    have h5 : ((List.replicate n z.toList).flatten).toArray[i]? = some z[i % z.size] := by
      rw [List.getElem?_toArray, h3, Array.getElem?_eq_getElem h4]
    rw [Array.getElem?_eq_getElem h2] at h5
    exact (Option.some.inj h5).symm

theorem aMakeSlice_ok (g : Ga B0 W0 ν h w) {t : TypeId} {vl vc v : V} {l c : Value} {h' : H} (e : aMakeSlice P h t vl vc = some (v, h')) (hl : cvV ν vl = some l) (hc : cvV ν vc = some c) :
    ∃ u ν' w', (Instr.makeSlice t l c).run P w = .ok u w' ∧ ν.le ν' ∧ Ga B0 W0 ν' h' w' ∧ cvV ν' v = some u := by
  unfold aMakeSlice at e
  split at e
  · rename_i elem ln cn hu hln hcn
    obtain ⟨kl, rfl⟩ := vNat_of hln hl
    obtain ⟨kc, rfl⟩ := vNat_of hcn hc
    split at e
    · rename_i i zs hi hzs
      cases hcond : (Nat.ble ln cn && Nat.ble (i.bytes * cn) 1000000000 && Nat.blt (cn * i.size) top && Nat.beq zs.length i.size && Nat.blt cn top) with
      | false => simp [hcond] at e
      | true =>
        simp only [hcond, cond_true] at e
        simp only [Bool.and_eq_true, beq_dec, ble_dec, Nat.blt, decide_eq_true_eq] at hcond
        obtain ⟨⟨⟨⟨c1, c2⟩, c3⟩, c4⟩, c5⟩ := hcond
        obtain ⟨i', z, hi', hz, hzc⟩ := zeroC_info hzs
        rw [hi] at hi'
        obtain rfl : i = i' := Option.some.inj hi'
        have hzl : z.cells.size = i.size := by have := cvL_length (hzc ν); simp at this; omega
        have hflat : cvL ν ((List.replicate cn zs).flatten) = some ((List.replicate cn z.cells.toList).flatten) := cvL_replicate (hzc ν) cn
        have hfl : ((List.replicate cn zs).flatten).length = cn * i.size := by simp [c4]
        have hmade := made_eq z.cells cn
        rw [hzl] at hmade
        have c6 : ((i.bytes * cn : Nat) : Int) ≤ 1000000000 := Int.ofNat_le.2 c2
        have c7 : (cn : Int) ≤ 9223372036854775807 := by simp only [top] at c5; omega
        have hrun := run_make (P := P) w t elem i z hu hi hz kl kc (ln : Int) (cn : Int) (by omega) (by omega) (by rw [Int.natCast_mul] at c6; omega) c7
        simp only [Int.toNat_natCast] at hrun
        rw [hmade] at hrun
        split at e
        · rename_i q hh
          simp only [Option.some.injEq, Prod.mk.injEq] at e
          obtain ⟨rfl, rfl⟩ := e
          obtain ⟨ν', k1, k2, k3⟩ := newRow_ok g hflat hfl (by omega) (get_made (by omega)) false 0 [] (by simp) (fun _ => rfl) hh
          simp only [List.append_nil] at k3
          exact ⟨_, ν', _, hrun, k1, k3, sl_mk 0 ln cn false k2⟩
        · cases e
    · cases e
  · cases e

theorem aBuildSlice_ok (g : Ga B0 W0 ν h w) {t : TypeId} {len : Nat} {parts : List (Nat × V)} {ps : Array (Nat × Value)} {v : V} {h' : H} (e : aBuildSlice P h t len parts = some (v, h'))
    (hp : parts.map (fun p => (p.1, cvV ν p.2)) = ps.toList.map (fun p => (p.1, some p.2))) :
    ∃ u ν' w', (Instr.buildSlice t len ps).run P w = .ok u w' ∧ ν.le ν' ∧ Ga B0 W0 ν' h' w' ∧ cvV ν' v = some u := by
  unfold aBuildSlice at e
  split at e
  · rename_i elem hu
    split at e
    · rename_i z zs hz hzs
      cases hcond : (Nat.beq zs.length z && Nat.blt (len * z) top) with
      | false => simp [hcond] at e
      | true =>
        simp only [hcond, cond_true] at e
        simp only [Bool.and_eq_true, beq_dec, Nat.blt, ble_dec, decide_eq_true_eq] at hcond
        obtain ⟨c1, c2⟩ := hcond
        obtain ⟨zv, hz1, hzc⟩ := zeroC_run hzs
        have hzl : zv.cells.size = z := by have := cvL_length (hzc ν); simp at this; omega
        have hflat : cvL ν ((List.replicate len zs).flatten) = some ((List.replicate len zv.cells.toList).flatten).toArray.toList := by simpa using cvL_replicate (hzc ν) len
        have hmade := made_eq zv.cells len
        rw [hzl] at hmade
        cases hf : aFill (fun i => some (i * z, z)) ((List.replicate len zs).flatten) parts with
        | none => simp [hf] at e
        | some cells =>
          simp only [hf] at e
          obtain ⟨us, k1, k2⟩ := aFill_ok hf hflat hp
          have hfl : ∀ {parts : List (Nat × V)} {place : Nat → Option (Nat × Nat)} {a b : List S}, aFill place a parts = some b → b.length = a.length := by
            intro parts
            induction parts with
            | nil => intro place a b hab; simp only [aFill, Option.some.injEq] at hab; rw [hab]
            | cons p ps ih =>
              intro place a b hab
              obtain ⟨i, x⟩ := p
              simp only [aFill] at hab
              split at hab
              · rename_i off s y _
                cases hc : (Nat.beq y.cells.length s && Nat.ble (off + s) a.length) with
                | false => simp [hc] at hab
                | true =>
                  simp only [hc, cond_true] at hab
                  simp only [Bool.and_eq_true, beq_dec, ble_dec, decide_eq_true_eq] at hc
                  rw [ih hab]
                  simp
                  omega
              · cases hab
          have hcl : cells.length = len * z := by rw [hfl hf]; simp [c1]
          split at e
          · rename_i q n h1 hh
            simp only [Option.some.injEq, Prod.mk.injEq] at e
            obtain ⟨rfl, rfl⟩ := e
            obtain ⟨ν', j1, j2, j3⟩ := newRow_ok g k2 hcl (by omega) (get_fresh (by omega) .ni) false 0 [] (by simp) (fun _ => rfl) hh
            simp only [List.append_nil, Array.toArray_toList] at j3
            refine ⟨.slice (some ⟨w.heap.size, 0, none⟩) len len, ν', _, ?_, j1, j3, sl_mk 0 len len false j2⟩
            have h24 : ¬ (len * z > 2 ^ 24) := by simp only [top] at c2; omega
            by_cases h0 : len * z = 0
            · have he : ((List.replicate len zv.cells.toList).flatten).toArray = (Array.range (len * z)).map (fun i => (#[] : Array Value)[i % (#[] : Array Value).size]!) := by
                rw [h0]
                have : ((List.replicate len zv.cells.toList).flatten).length = 0 := by simp [hzl, h0]
                simp [List.length_eq_zero_iff.1 this]
              rw [he] at k1
              simp only [Instr.buildSlice, Sem.run_bind, run_underlying hu, Result.andThen_ok, sizeT_run hz, Sem.run_ite, h0, if_true, Sem.run_pure]
              rw [h0] at k1
              simp only [k1]
              simp [newRow]
            · have he : ((List.replicate len zv.cells.toList).flatten).toArray = (Array.range (len * z)).map (fun i => zv.cells[i % zv.cells.size]!) := hmade.symm
              rw [he] at k1
              simp only [Instr.buildSlice, Sem.run_bind, run_underlying hu, Result.andThen_ok, sizeT_run hz, if_neg h24, if_neg h0, Sem.run_pure, hz1]
              simp only [k1]
              simp [newRow]
          · cases e
    · cases e
  · cases e

/-! ### append, copy, clear -/

theorem aFirst_ok (g : Ga B0 W0 ν h w) {z n : Nat} {x : V} {l : List S} {v : Value} (e : aFirst h z n x = some l) (hv : cvV ν x = some v) :
    ∃ vs, cvL ν l = some vs ∧ (Builtin.firstCells z n v).run P w = .ok vs.toArray w := by
  unfold aFirst at e
  split at e
  · obtain rfl := nsl_of hv
    simp only [Option.some.injEq] at e
    subst e
    exact ⟨[], rfl, by simp [Builtin.firstCells]⟩
  · rename_i b off len c o
    obtain ⟨y, hy, rfl⟩ := sl_of hv
    split at e
    · rename_i k r el z' o' hn
      obtain ⟨b1, sl, cur, h1, _, _, h4, h5, h6, _⟩ := g.row hn
      rw [hy] at h1
      obtain rfl : y = (b1, sl) := Option.some.inj h1
      cases hc : (Nat.ble (off + n * z) k && okL (r.cells off (n * z))) with
      | false => simp [hc] at e
      | true =>
        simp only [hc, cond_true, Option.some.injEq] at e
        subst e
        simp only [Bool.and_eq_true] at hc
        obtain ⟨vs, k1, k2, k3⟩ := RowR_cells h5 (Nat.le_of_ble_eq_true hc.1) hc.2
        exact ⟨vs, k1, run_firstCells_some w z n ⟨b1, off, none⟩ len _ vs k2 (fun j v hj => by rw [add_addr, cell_at h4]; exact k3 j v hj)⟩
    · cases e
  · rename_i s
    obtain rfl := str_of hv
    simp only [Option.some.injEq] at e
    subst e
    refine ⟨(s.take n).map fun b => .int .u8 b.toNat, ?_, ?_⟩
    · generalize s.take n = m
      induction m with
      | nil => rfl
      | cons x m ih => exact cvL_mk rfl ih
    · simp only [Builtin.firstCells, Sem.run_pure]
      congr 1
      apply Array.ext'
      simp [ByteArray.data_extract]
  · cases e

theorem vLen_ok {x : V} {n : Nat} {v : Value} (e : vLen x = some n) (hv : cvV ν x = some v) (w : World) : (Builtin.lenOf v).run P w = .ok n w := by
  unfold vLen at e
  split at e
  · obtain rfl := nsl_of hv
    simp only [Option.some.injEq] at e
    subst e
    simp [Builtin.lenOf]
  · obtain ⟨y, hy, rfl⟩ := sl_of hv
    simp only [Option.some.injEq] at e
    subst e
    simp [Builtin.lenOf]
  · obtain rfl := str_of hv
    simp only [Option.some.injEq] at e
    subst e
    simp [Builtin.lenOf]
    rfl
  · cases e

/-- A row in which cells are set, as a world. -/
theorem setCells_ok (g : Ga B0 W0 ν h w) {n k : Nat} {r : Tr S} {el z : Nat} {o : Bool} (hn : h.get n = .row k r el z o) {b sl : Nat} (hy : ν n = some (b, sl)) {off : Nat} {l : List S} {vs : List Value}
    (hl : cvL ν l = some vs) (hk : off + l.length ≤ k) :
    ∃ w', (storeCells ⟨b, off, none⟩ vs).run P w = .ok () w' ∧ Ga B0 W0 ν (h.put n (.row k (r.write off l) el z o)) w' := by
  obtain ⟨b1, sl1, cur, h1, _, _, h4, h5, h6, _⟩ := g.row hn
  rw [hy] at h1
  obtain ⟨rfl, rfl⟩ := Prod.mk.inj (Option.some.inj h1)
  have hlen := cvL_length hl
  have hst := run_storeCells_at P b off el vs 0 cur w h4 (by omega) (cvL_one hl)
  refine ⟨_, hst, g.setRow hn hy h4 (RowR_write h5 (by omega) hl hk) ?_⟩
  simp
  omega

theorem aCopy_ok (g : Ga B0 W0 ν h w) {dT sT ty : TypeId} {vd vs v : V} {d s : Value} {h' : H} (e : aCopy P h dT vd vs = some (v, h')) (hd : cvV ν vd = some d) (hs : cvV ν vs = some s) {ts : Array TypeId} (hts : ts[0]? = some dT) :
    ∃ u w', (Builtin.copy_ ts ty #[d, s]).run P w = .ok u w' ∧ Ga B0 W0 ν h' w' ∧ cvV ν v = some u := by
  have _ := sT
  unfold aCopy at e
  split at e
  · rename_i elem hu
    split at e
    · rename_i z dl sl hz hdl hsl
      simp only at e
      cases hf : aFirst h z (Nat.min sl dl) vs with
      | none => simp [hf] at e
      | some cells =>
        simp only [hf] at e
        obtain ⟨us, k1, k2⟩ := aFirst_ok (P := P) g hf hs
        cases hc : Nat.beq cells.length (Nat.min sl dl * z) with
        | false => simp [hc] at e
        | true =>
          simp only [hc, cond_true] at e
          have hcl := Nat.eq_of_beq_eq_true hc
          split at e
          · obtain rfl := nsl_of hd
            simp only [Option.some.injEq, Prod.mk.injEq] at e
            obtain ⟨rfl, rfl⟩ := e
            refine ⟨_, w, ?_, g, rfl⟩
            simp [Builtin.copy_, hts, run_underlying hu, vLen_ok hsl hs, sizeT_run hz, goInt]
            simp only [vLen, Option.some.injEq] at hdl
            subst hdl
            simp only [Nat.min_zero] at k2 ⊢
            simp [k2]
          · rename_i b off len c o
            obtain ⟨y, hy, rfl⟩ := sl_of hd
            split at e
            · rename_i k r el z' o' hn
              cases hk : Nat.ble (off + Nat.min sl dl * z) k with
              | false => simp [hk] at e
              | true =>
                simp only [hk, cond_true, Option.some.injEq, Prod.mk.injEq] at e
                obtain ⟨rfl, rfl⟩ := e
                obtain ⟨w', j1, j2⟩ := setCells_ok (P := P) g hn hy k1 (off := off) (by have := Nat.le_of_ble_eq_true hk; omega)
                refine ⟨_, w', ?_, j2, rfl⟩
                simp only [vLen, Option.some.injEq] at hdl
                subst hdl
                simp [Builtin.copy_, hts, run_underlying hu, vLen_ok hsl hs, sizeT_run hz, goInt, k2, j1]
            · cases e
          · cases e
    · cases e
  · cases e

theorem zeroCells_eq (z : Array Value) (n : Nat) : Builtin.zeroCells z n = ((List.replicate n z.toList).flatten).toArray := made_eq z n

theorem aClear_ok (g : Ga B0 W0 ν h w) {t ty : TypeId} {vd v : V} {d : Value} {h' : H} (e : aClear P h t vd = some (v, h')) (hd : cvV ν vd = some d) {ts : Array TypeId} (hts : ts[0]? = some t) :
    ∃ u w', (Builtin.clear_ ts ty #[d]).run P w = .ok u w' ∧ Ga B0 W0 ν h' w' ∧ cvV ν v = some u := by
  unfold aClear at e
  split at e
  · rename_i elem hu
    split at e
    · rename_i z zs hz hzs
      cases hc : Nat.beq zs.length z with
      | false => simp [hc] at e
      | true =>
        simp only [hc, cond_true] at e
        have hzl := Nat.eq_of_beq_eq_true hc
        split at e
        · obtain rfl := nsl_of hd
          simp only [Option.some.injEq, Prod.mk.injEq] at e
          obtain ⟨rfl, rfl⟩ := e
          exact ⟨_, w, by simp [Builtin.clear_, hts, run_underlying hu], g, rfl⟩
        · rename_i b off len c o
          obtain ⟨y, hy, rfl⟩ := sl_of hd
          split at e
          · rename_i k r el z' o' hn
            cases hk : Nat.ble (off + len * z) k with
            | false => simp [hk] at e
            | true =>
              simp only [hk, cond_true, Option.some.injEq, Prod.mk.injEq] at e
              obtain ⟨rfl, rfl⟩ := e
              have hkk := Nat.le_of_ble_eq_true hk
              obtain ⟨zv, hz1, hzc⟩ := zeroC_run hzs
              obtain ⟨w', j1, j2⟩ := setCells_ok (P := P) g hn hy (cvL_replicate (hzc ν) len) (off := off) (by simp [hzl]; exact hkk)
              cases len with
              | zero =>
                simp only [List.replicate_zero, List.flatten_nil, storeCells, Sem.run_pure, Result.ok.injEq, true_and] at j1
                subst j1
                exact ⟨_, w, by simp [Builtin.clear_, hts, run_underlying hu], j2, rfl⟩
              | succ len =>
                refine ⟨_, w', ?_, j2, rfl⟩
                simp [Builtin.clear_, hts, run_underlying hu, hz1, zeroCells_eq, j1]
          · cases e
        · cases e
    · cases e
  · cases e

theorem toBytes_ok : ∀ {l : List S} {bs : List UInt8} {vs : List Value}, aToBytes l = some bs → cvL ν l = some vs →
    ∃ ns : List Int, vs = ns.map (Value.int .u8) ∧ bs = ns.map (fun n => UInt8.ofNat n.toNat)
  | [], bs, vs, e, hv => by
    simp only [aToBytes, Option.some.injEq] at e
    simp only [cvL, Option.some.injEq] at hv
    subst e; subst hv
    exact ⟨[], rfl, rfl⟩
  | x :: l, bs, vs, e, hv => by
    unfold aToBytes at e
    split at e
    · rename_i heq
      cases heq
    · rename_i n l' heq
      obtain ⟨rfl, rfl⟩ := List.cons.inj heq
      obtain ⟨v, ws, h1, h2, rfl⟩ := cvL_cons hv
      cases hr : aToBytes l with
      | none => simp [hr] at e
      | some r =>
        simp only [hr, Option.some.injEq] at e
        subst e
        obtain ⟨ns, k1, k2⟩ := toBytes_ok hr h2
        simp only [cvS, Option.some.injEq] at h1
        exact ⟨(n : Int) :: ns, by rw [k1, ← h1]; rfl, by rw [k2]; simp⟩
    · cases e

theorem push_list (ns : List Int) : ∀ (acc : List UInt8), ns.foldl (fun r n => r.push (UInt8.ofNat n.toNat)) (ByteArray.mk acc.toArray) = ByteArray.mk (acc ++ ns.map fun n => UInt8.ofNat n.toNat).toArray := by
  induction ns with
  | nil => intro acc; simp
  | cons n ns ih =>
    intro acc
    simp only [List.foldl_cons, List.map_cons]
    have : (ByteArray.mk acc.toArray).push (UInt8.ofNat n.toNat) = ByteArray.mk (acc ++ [UInt8.ofNat n.toNat]).toArray := by
      apply ByteArray.ext
      simp [ByteArray.push]
    rw [this, ih]
    simp

theorem aBytesString_ok (g : Ga B0 W0 ν h w) {src dst : TypeId} {vx v : V} {a : Value} (e : aBytesString P h src dst vx = some v) (ha : cvV ν vx = some a) :
    ∃ u, (convert src dst a).run P w = .ok u w ∧ cvV ν v = some u := by
  unfold aBytesString at e
  split at e
  · rename_i el hs hd
    split at e
    · rename_i hel
      split at e
      · obtain rfl := nsl_of ha
        simp only [Option.some.injEq] at e
        subst e
        exact ⟨_, by simp [convert, run_underlying hs, run_underlying hd, run_underlying hel, Conv.bytesToString]; rfl, rfl⟩
      · rename_i b off len c o
        cases hf : aFirst h 1 len (.w (.s (.sl b off len c o))) with
        | none => simp [hf] at e
        | some l =>
          simp only [hf] at e
          cases hb : aToBytes l with
          | none => simp [hb] at e
          | some bs =>
            simp only [hb, Option.some.injEq] at e
            subst e
            obtain ⟨vs, k1, k2⟩ := aFirst_ok (P := P) g hf ha
            obtain ⟨ns, rfl, rfl⟩ := toBytes_ok hb k1
            obtain ⟨y, hy, rfl⟩ := sl_of ha
            refine ⟨_, ?_, rfl⟩
            have hl : (loadCells ⟨y.1, off, none⟩ len).run P w = .ok (ns.map (Value.int .u8)).toArray w := by simpa [Builtin.firstCells] using k2
            have hb := run_bytesToString (P := P) w ⟨y.1, off, none⟩ len (cond o (c + y.2) c) ns hl
            have he := push_list ns []
            simp only [List.nil_append] at he
            simp only [convert, Sem.run_bind, run_underlying hs, run_underlying hd, Result.andThen_ok, run_underlying hel, hb]
            congr 2
      · cases e
    · cases e
  · cases e

end
end Ai
end Go.Proofs.YtjmhkcfdmcjilaaGreat
