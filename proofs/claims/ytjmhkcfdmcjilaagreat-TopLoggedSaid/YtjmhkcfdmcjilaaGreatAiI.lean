/-
  append; maps; and all operations upon memory in one word: 'mem_ok'.
-/
import Derived.Test.YtjmhkcfdmcjilaaGreatAiG
import Derived.Laws.BytesString
import Derived.MapKept
/- Operations upon memory. -/
namespace Go.Proofs.YtjmhkcfdmcjilaaGreat
namespace Ai
open Go.RowKit
section
variable {P : Program} {B0 : Nat} {W0 : World} {ν : Nu} {h : H} {w : World}

/-! ### Rows -/

theorem RowR_cells {k : Nat} {t : Tr S} {cur : Array Value} (r : RowR ν k t cur) {off n : Nat} (hn : off + n ≤ k) (ho : okL (t.cells off n) = true) :
    ∃ vs, cvL ν (t.cells off n) = some vs ∧ vs.length = n ∧ ∀ j v, vs[j]? = some v → cur[off + j]? = some v := by
  have hok : ∀ {l : List S}, okL l = true → ∀ (i : Nat) x, l[i]? = some x → okS x = true := by
    intro l
    induction l with
    | nil => intro _ i x hx; simp at hx
    | cons y l ih =>
      intro hl i x hx
      simp only [okL, Bool.and_eq_true] at hl
      cases i with
      | zero => simp only [List.getElem?_cons_zero, Option.some.injEq] at hx; subst hx; exact hl.1
      | succ i => exact ih hl.2 i x (by simpa using hx)
  have hcell : ∀ i, i < n → ∃ v, cur[off + i]? = some v ∧ cvS ν (t.get (off + i)) = some v := fun i hi => by
    have h1 := Tr.get_cells t n off i
    rw [if_pos hi] at h1
    have h2 := hok ho i _ h1
    rcases r.2 (off + i) (by omega) with h3 | h3
    · rw [h3] at h2; cases h2
    · exact h3
  obtain ⟨vs, hvs⟩ := cvL_of (ν := ν) (t.cells off n) (fun i x hx => by
    have hlt : i < n := by
      have := (List.getElem?_eq_some_iff.1 hx).1
      rwa [Tr.length_cells] at this
    have h1 := Tr.get_cells t n off i
    rw [if_pos hlt, hx] at h1
    obtain ⟨v, _, h3⟩ := hcell i hlt
    exact ⟨v, by rw [Option.some.inj h1]; exact h3⟩)
  have hlen : vs.length = n := by rw [cvL_length hvs, Tr.length_cells]
  refine ⟨vs, hvs, hlen, fun j v hv => ?_⟩
  have hlt : j < n := by rw [← hlen]; exact (List.getElem?_eq_some_iff.1 hv).1
  obtain ⟨u, h2, h3⟩ := hcell j hlt
  have h4 := cvL_get hvs j
  rw [Tr.get_cells, if_pos hlt, hv] at h4
  simp only [Option.bind_some, h3] at h4
  rw [h2, ← h4]

theorem RowR_write {k : Nat} {t : Tr S} {cur : Array Value} (r : RowR ν k t cur) (hk : k ≤ cur.size) {off : Nat} {l : List S} {vs : List Value} (hl : cvL ν l = some vs) (hn : off + l.length ≤ k) :
    RowR ν k (t.write off l) (cur.toList.take off ++ vs ++ cur.toList.drop (off + vs.length)).toArray := by
  have hlen := cvL_length hl
  refine ⟨r.1, fun i hi => ?_⟩
  rw [Tr.get_write l t off (Nat.le_trans hn r.1)]
  have hget : (cur.toList.take off ++ vs ++ cur.toList.drop (off + vs.length)).toArray[i]? =
      if off ≤ i then (match vs[i - off]? with | some v => some v | none => cur[i]?) else cur[i]? := by
    rw [List.getElem?_toArray, List.append_assoc]
    have hoff : (cur.toList.take off).length = off := by simp; omega
    by_cases h1 : off ≤ i
    · rw [if_pos h1, List.getElem?_append_right (by omega), hoff]
      by_cases h2 : i - off < vs.length
      · rw [List.getElem?_append_left h2, List.getElem?_eq_getElem h2]
      · rw [List.getElem?_append_right (by omega), List.getElem?_eq_none (by omega : vs.length ≤ i - off)]
        rw [List.getElem?_drop]
        have : off + vs.length + (i - off - vs.length) = i := by omega
        rw [this]
        simp
    · rw [if_neg h1, List.getElem?_append_left (by omega), List.getElem?_take_of_lt (by omega)]
      simp
  rw [hget]
  by_cases h1 : off ≤ i
  · rw [if_pos h1, if_pos h1]
    have h2 := cvL_get hl (i - off)
    cases hx : l[i - off]? with
    | none => rw [hx] at h2; rw [h2]; exact r.2 i hi
    | some x =>
      rw [hx] at h2
      cases hv : vs[i - off]? with
      | none =>
        have h3 : i - off < l.length := (List.getElem?_eq_some_iff.1 hx).1
        rw [List.getElem?_eq_getElem (by omega)] at hv
        cases hv
      | some v =>
        rw [hv] at h2
        exact .inr ⟨v, rfl, by simpa using h2.symm⟩
  · rw [if_neg h1, if_neg h1]
    exact r.2 i hi

/-- A row that is new. -/
theorem RowR_list {l : List S} {vs : List Value} (hl : cvL ν l = some vs) (hn : l.length ≤ top) {t : Tr S} (ht : ∀ (i : Nat) x, l[i]? = some x → t.get i = x) (rest : List Value) :
    RowR ν l.length t (vs ++ rest).toArray := by
  refine ⟨hn, fun i hi => ?_⟩
  rw [ht i _ (List.getElem?_eq_getElem hi)]
  have h2 := cvL_get hl i
  have hlen := cvL_length hl
  rw [List.getElem?_eq_getElem hi] at h2
  rw [List.getElem?_eq_getElem (by omega)] at h2
  simp only [Option.bind_some] at h2
  exact .inr ⟨vs[i]'(by omega), by rw [List.getElem?_toArray, List.getElem?_append_left (by omega), List.getElem?_eq_getElem], h2.symm⟩

theorem get_fresh {l : List S} (hn : l.length ≤ top) (d : S) (i : Nat) (x : S) (hx : l[i]? = some x) : ((Tr.leaf d).write 0 l).get i = x := by
  rw [Tr.get_write l _ 0 (by omega), if_pos (Nat.zero_le i)]
  simp [hx]

theorem get_made {zs : List S} {c : Nat} (hn : ((List.replicate c zs).flatten).length ≤ top) (i : Nat) (x : S) (hx : ((List.replicate c zs).flatten)[i]? = some x) : (madeRow zs c).get i = x := by
  unfold madeRow
  split
  · rename_i y
    rw [Tr.get_leaf]
    have : x ∈ (List.replicate c [y]).flatten := List.mem_of_getElem? hx
    simp only [List.mem_flatten, List.mem_replicate] at this
    obtain ⟨l, ⟨_, rfl⟩, h2⟩ := this
    exact (List.mem_singleton.1 h2).symm
  · exact get_fresh hn .ni i x hx

theorem cell_at {b : Nat} {cur : Array Value} {e : TypeId} (hb : w.heap[b]? = some (.cells cur e (0, 0))) (i : Nat) : w.cell? ⟨b, i, none⟩ = cur[i]? := by
  simp [World.cell?, hb]

theorem load_ok (g : Ga B0 W0 ν h w) {t : TypeId} {vx v : V} {a : Value} (e : aLoad P h t vx = some v) (ha : cvV ν vx = some a) :
    ∃ u, cvV ν v = some u ∧ (Instr.loadAt t a).run P w = .ok u w := by
  unfold aLoad at e
  split at e
  · rename_i n off
    obtain ⟨y, hy, rfl⟩ := ptr_of ha
    split at e
    · rename_i k r el z o hn
      obtain ⟨b, sl, cur, h1, _, _, h4, h5, h6, _⟩ := g.row hn
      rw [hy] at h1
      obtain rfl : y = (b, sl) := Option.some.inj h1
      split at e
      · rename_i s hag hz
        cases hc : (Nat.ble (off + s) k && okL (r.cells off s)) with
        | false => simp [hc] at e
        | true =>
          simp only [hc, cond_true, Option.some.injEq] at e
          subst e
          simp only [Bool.and_eq_true] at hc
          obtain ⟨vs, k1, k2, k3⟩ := RowR_cells h5 (Nat.le_of_ble_eq_true hc.1) hc.2
          refine ⟨_, agg_mk k1, ?_⟩
          have hl := run_loadCells_list (P := P) w ⟨b, off, none⟩ vs (fun j v hv => by rw [add_addr, cell_at h4]; exact k3 j v hv)
          rw [k2] at hl
          simp [Instr.loadAt, Instr.sureAddr, loadVar, isAggT_run hag, sizeT_run hz, hl]
      · rename_i s hag hz
        cases hc : (Nat.blt off k && okS (r.get off)) with
        | false => simp [hc] at e
        | true =>
          simp only [hc, cond_true, Option.some.injEq] at e
          subst e
          simp only [Bool.and_eq_true] at hc
          have hlt : off < k := Nat.le_of_ble_eq_true hc.1
          rcases h5.2 off hlt with hx | ⟨v, k1, k2⟩
          · rw [hx] at hc; simp [okS] at hc
          · refine ⟨v, k2, ?_⟩
            have hcell : w.cell? ⟨b, off, none⟩ = some v := by rw [cell_at h4]; exact k1
            simp [Instr.loadAt, Instr.sureAddr, loadVar, isAggT_run hag, hcell]
      · cases e
    · cases e
  · cases e

theorem store_ok (g : Ga B0 W0 ν h w) {t : TypeId} {vx vv : V} {a u : Value} {h' : H} (e : aStore P h t vx vv = some h') (ha : cvV ν vx = some a) (hu : cvV ν vv = some u) :
    ∃ w', (Instr.storeAt t a u).run P w = .ok () w' ∧ Ga B0 W0 ν h' w' := by
  unfold aStore at e
  split at e
  · rename_i n off x
    obtain ⟨y, hy, rfl⟩ := ptr_of ha
    split at e
    · rename_i k r el z o s hn hz
      obtain ⟨b, sl, cur, h1, _, _, h4, h5, h6, _⟩ := g.row hn
      rw [hy] at h1
      obtain rfl : y = (b, sl) := Option.some.inj h1
      cases hc : (Nat.beq x.cells.length s && Nat.ble (off + s) k) with
      | false => simp [hc] at e
      | true =>
        simp only [hc, cond_true, Option.some.injEq] at e
        subst e
        simp only [Bool.and_eq_true] at hc
        have hs : x.cells.length = s := Nat.eq_of_beq_eq_true hc.1
        have hk : off + s ≤ k := Nat.le_of_ble_eq_true hc.2
        have hcv := cells_cv (show cvW ν x = some u from hu)
        have hsz := cells_w (show cvW ν x = some u from hu)
        have hfit : off + 0 + u.cells.toList.length ≤ cur.size := by rw [Array.length_toList]; omega
        have hst := run_storeCells_at P b off el u.cells.toList 0 cur w h4 hfit (cvL_one hcv)
        have hrow := RowR_write (off := off) h5 (by omega) hcv (by omega)
        refine ⟨_, ?_, g.setRow hn hy h4 hrow ?_⟩
        · have hne : ¬ u.cells.size ≠ s := by omega
          simp only [Instr.storeAt, Instr.sureAddr, Sem.run_bind, Sem.run_pure, Result.andThen_ok, storeVar, sizeT_run hz, if_neg hne, hst, Nat.add_zero]
        · have : u.cells.toList.length = u.cells.size := Array.length_toList
          simp; omega
    · cases e
  · cases e

/-- A row of cells that are given. -/
theorem newRow_ok (g : Ga B0 W0 ν h w) {el z n k : Nat} {cells : List S} {vs : List Value} {h' : H} (hcv : cvL ν cells = some vs) (hk : cells.length = k) (ht : k ≤ top) {t : Tr S}
    (hget : ∀ (i : Nat) x, cells[i]? = some x → t.get i = x) (o : Bool) (sl : Nat) (rest : List Value)
    (hrest : rest.length = sl * z) (ho : o = false → sl = 0) (hh : h.new (.row k t el z o) = some (n, h')) :
    ∃ ν', ν.le ν' ∧ ν' n = some (w.heap.size, sl) ∧ Ga B0 W0 ν' h' (w.alloc (.cells (vs ++ rest).toArray el)) := by
  have hlen := cvL_length hcv
  have hr := RowR_list hcv (by omega) hget rest
  rw [hk] at hr
  obtain ⟨h1, h2⟩ := g.new hh (by simp) sl (.cells (vs ++ rest).toArray el) ⟨_, rfl, hr, by simp; omega, ho⟩
  exact ⟨_, h1, by simp [Nu.upd], h2⟩

theorem aNew_ok (g : Ga B0 W0 ν h w) {el : TypeId} {x : W} {u : Value} {v : V} {h' : H} (e : aNew P h el x.cells = some (v, h')) (hu : cvW ν x = some u) :
    ∃ p ν' w', (newVar el u).run P w = .ok p w' ∧ ν.le ν' ∧ Ga B0 W0 ν' h' w' ∧ cvV ν' v = some (.pointer (some p)) := by
  unfold aNew at e
  cases hz : sizeT P el with
  | none => simp [hz] at e
  | some z =>
    simp only [hz] at e
    cases hc : Nat.blt x.cells.length top with
    | false => simp [hc] at e
    | true =>
      simp only [hc, cond_true] at e
      cases hh : h.new (.row x.cells.length (Tr.write (.leaf .ni) 0 x.cells) el z false) with
      | none => simp [hh] at e
      | some q =>
        obtain ⟨n, h1⟩ := q
        simp only [hh, Option.some.injEq, Prod.mk.injEq] at e
        obtain ⟨rfl, rfl⟩ := e
        obtain ⟨ν', k1, k2, k3⟩ := newRow_ok g (cells_cv hu) rfl (Nat.le_of_lt (Nat.le_of_ble_eq_true hc)) (get_fresh (Nat.le_of_lt (Nat.le_of_ble_eq_true hc)) .ni) false 0 [] (by simp) (fun _ => rfl) hh
        simp only [List.append_nil, Array.toArray_toList] at k3
        exact ⟨⟨w.heap.size, 0, none⟩, ν', w.alloc (.cells u.cells el), by simp [newVar, newRow], k1, k3, ptr_mk 0 k2⟩

theorem made_eq (z : Array Value) (n : Nat) : madeCells z (n * z.size) = ((List.replicate n z.toList).flatten).toArray := by
  apply Array.ext
  · simp [madeCells]
  · intro i h1 h2
    simp only [size_madeCells] at h1
    have hz : 0 < z.size := by rcases Nat.eq_zero_or_pos z.size with h | h <;> simp_all
    have key : ∀ (n i : Nat), i < n * z.size → ((List.replicate n z.toList).flatten)[i]? = z[i % z.size]? := by
      intro n
      induction n with
      | zero => intro i hi; simp at hi
      | succ n ih =>
        intro i hi
        simp only [List.replicate_succ, List.flatten_cons]
        by_cases hlt : i < z.size
        · rw [List.getElem?_append_left (by simpa using hlt), Nat.mod_eq_of_lt hlt, Array.getElem?_toList]
        · rw [List.getElem?_append_right (by simpa using hlt)]
          simp only [Array.length_toList]
          rw [ih (i - z.size) (by rw [Nat.succ_mul] at hi; omega)]
          congr 1
          rw [← Nat.mod_eq_sub_mod (by omega)]
    have h3 := key n i h1
    have h4 : i % z.size < z.size := Nat.mod_lt _ hz
    simp only [madeCells, Array.getElem_map, Array.getElem_range]
    rw [getElem!_pos z _ h4]
    have h5 : ((List.replicate n z.toList).flatten).toArray[i]? = some z[i % z.size] := by
      rw [List.getElem?_toArray, h3, Array.getElem?_eq_getElem h4]
    rw [Array.getElem?_eq_getElem h2] at h5
    exact (Option.some.inj h5).symm

theorem aMakeSlice_ok (g : Ga B0 W0 ν h w) {t : TypeId} {vl vc v : V} {l c : Value} {h' : H} (e : aMakeSlice P h t vl vc = some (v, h')) (hl : cvV ν vl = some l) (hc : cvV ν vc = some c) :
    ∃ u ν' w', (Instr.makeSlice t l c).run P w = .ok u w' ∧ ν.le ν' ∧ Ga B0 W0 ν' h' w' ∧ cvV ν' v = some u := by
  unfold aMakeSlice at e
  split at e
  · rename_i elem ln cn hu hln hcn
    obtain ⟨kl, rfl⟩ := vNat_of hln hl
    obtain ⟨kc, rfl⟩ := vNat_of hcn hc
    split at e
    · rename_i i zs hi hzs
      cases hcond : (Nat.ble ln cn && Nat.ble (i.bytes * cn) 1000000000 && Nat.blt (cn * i.size) top && Nat.beq zs.length i.size && Nat.blt cn top) with
      | false => simp [hcond] at e
      | true =>
        simp only [hcond, cond_true] at e
        simp only [Bool.and_eq_true, beq_dec, ble_dec, Nat.blt, decide_eq_true_eq] at hcond
        obtain ⟨⟨⟨⟨c1, c2⟩, c3⟩, c4⟩, c5⟩ := hcond
        obtain ⟨i', z, hi', hz, hzc⟩ := zeroC_info hzs
        rw [hi] at hi'
        obtain rfl : i = i' := Option.some.inj hi'
        have hzl : z.cells.size = i.size := by have := cvL_length (hzc ν); simp at this; omega
        have hflat : cvL ν ((List.replicate cn zs).flatten) = some ((List.replicate cn z.cells.toList).flatten) := cvL_replicate (hzc ν) cn
        have hfl : ((List.replicate cn zs).flatten).length = cn * i.size := by simp [c4]
        have hmade := made_eq z.cells cn
        rw [hzl] at hmade
        have c6 : ((i.bytes * cn : Nat) : Int) ≤ 1000000000 := Int.ofNat_le.2 c2
        have c7 : (cn : Int) ≤ 9223372036854775807 := by simp only [top] at c5; omega
        have hrun := run_make (P := P) w t elem i z hu hi hz kl kc (ln : Int) (cn : Int) (by omega) (by omega) (by rw [Int.natCast_mul] at c6; omega) c7
        simp only [Int.toNat_natCast] at hrun
        rw [hmade] at hrun
        split at e
        · rename_i q hh
          simp only [Option.some.injEq, Prod.mk.injEq] at e
          obtain ⟨rfl, rfl⟩ := e
          obtain ⟨ν', k1, k2, k3⟩ := newRow_ok g hflat hfl (by omega) (get_made (by omega)) false 0 [] (by simp) (fun _ => rfl) hh
          simp only [List.append_nil] at k3
          exact ⟨_, ν', _, hrun, k1, k3, sl_mk 0 ln cn false k2⟩
        · cases e
    · cases e
  · cases e

theorem aBuildSlice_ok (g : Ga B0 W0 ν h w) {t : TypeId} {len : Nat} {parts : List (Nat × V)} {ps : Array (Nat × Value)} {v : V} {h' : H} (e : aBuildSlice P h t len parts = some (v, h'))
    (hp : parts.map (fun p => (p.1, cvV ν p.2)) = ps.toList.map (fun p => (p.1, some p.2))) :
    ∃ u ν' w', (Instr.buildSlice t len ps).run P w = .ok u w' ∧ ν.le ν' ∧ Ga B0 W0 ν' h' w' ∧ cvV ν' v = some u := by
  unfold aBuildSlice at e
  split at e
  · rename_i elem hu
    split at e
    · rename_i z zs hz hzs
      cases hcond : (Nat.beq zs.length z && Nat.blt (len * z) top) with
      | false => simp [hcond] at e
      | true =>
        simp only [hcond, cond_true] at e
        simp only [Bool.and_eq_true, beq_dec, Nat.blt, ble_dec, decide_eq_true_eq] at hcond
        obtain ⟨c1, c2⟩ := hcond
        obtain ⟨zv, hz1, hzc⟩ := zeroC_run hzs
        have hzl : zv.cells.size = z := by have := cvL_length (hzc ν); simp at this; omega
        have hflat : cvL ν ((List.replicate len zs).flatten) = some ((List.replicate len zv.cells.toList).flatten).toArray.toList := by simpa using cvL_replicate (hzc ν) len
        have hmade := made_eq zv.cells len
        rw [hzl] at hmade
        cases hf : aFill (fun i => some (i * z, z)) ((List.replicate len zs).flatten) parts with
        | none => simp [hf] at e
        | some cells =>
          simp only [hf] at e
          obtain ⟨us, k1, k2⟩ := aFill_ok hf hflat hp
          have hfl : ∀ {parts : List (Nat × V)} {place : Nat → Option (Nat × Nat)} {a b : List S}, aFill place a parts = some b → b.length = a.length := by
            intro parts
            induction parts with
            | nil => intro place a b hab; simp only [aFill, Option.some.injEq] at hab; rw [hab]
            | cons p ps ih =>
              intro place a b hab
              obtain ⟨i, x⟩ := p
              simp only [aFill] at hab
              split at hab
              · rename_i off s y _
                cases hc : (Nat.beq y.cells.length s && Nat.ble (off + s) a.length) with
                | false => simp [hc] at hab
                | true =>
                  simp only [hc, cond_true] at hab
                  simp only [Bool.and_eq_true, beq_dec, ble_dec, decide_eq_true_eq] at hc
                  rw [ih hab]
                  simp
                  omega
              · cases hab
          have hcl : cells.length = len * z := by rw [hfl hf]; simp [c1]
          split at e
          · rename_i q n h1 hh
            simp only [Option.some.injEq, Prod.mk.injEq] at e
            obtain ⟨rfl, rfl⟩ := e
            obtain ⟨ν', j1, j2, j3⟩ := newRow_ok g k2 hcl (by omega) (get_fresh (by omega) .ni) false 0 [] (by simp) (fun _ => rfl) hh
            simp only [List.append_nil, Array.toArray_toList] at j3
            refine ⟨.slice (some ⟨w.heap.size, 0, none⟩) len len, ν', _, ?_, j1, j3, sl_mk 0 len len false j2⟩
            have h24 : ¬ (len * z > 2 ^ 24) := by simp only [top] at c2; omega
            by_cases h0 : len * z = 0
            · have he : ((List.replicate len zv.cells.toList).flatten).toArray = (Array.range (len * z)).map (fun i => (#[] : Array Value)[i % (#[] : Array Value).size]!) := by
                rw [h0]
                have : ((List.replicate len zv.cells.toList).flatten).length = 0 := by simp [hzl, h0]
                simp [List.length_eq_zero_iff.1 this]
              rw [he] at k1
              simp only [Instr.buildSlice, Sem.run_bind, run_underlying hu, Result.andThen_ok, sizeT_run hz, Sem.run_ite, h0, if_true, Sem.run_pure]
              rw [h0] at k1
              simp only [k1]
              simp [newRow]
            · have he : ((List.replicate len zv.cells.toList).flatten).toArray = (Array.range (len * z)).map (fun i => zv.cells[i % zv.cells.size]!) := hmade.symm
              rw [he] at k1
              simp only [Instr.buildSlice, Sem.run_bind, run_underlying hu, Result.andThen_ok, sizeT_run hz, if_neg h24, if_neg h0, Sem.run_pure, hz1]
              simp only [k1]
              simp [newRow]
          · cases e
    · cases e
  · cases e

/-! ### append, copy, clear -/

theorem aFirst_ok (g : Ga B0 W0 ν h w) {z n : Nat} {x : V} {l : List S} {v : Value} (e : aFirst h z n x = some l) (hv : cvV ν x = some v) :
    ∃ vs, cvL ν l = some vs ∧ (Builtin.firstCells z n v).run P w = .ok vs.toArray w := by
  unfold aFirst at e
  split at e
  · obtain rfl := nsl_of hv
    simp only [Option.some.injEq] at e
    subst e
    exact ⟨[], rfl, by simp [Builtin.firstCells]⟩
  · rename_i b off len c o
    obtain ⟨y, hy, rfl⟩ := sl_of hv
    split at e
    · rename_i k r el z' o' hn
      obtain ⟨b1, sl, cur, h1, _, _, h4, h5, h6, _⟩ := g.row hn
      rw [hy] at h1
      obtain rfl : y = (b1, sl) := Option.some.inj h1
      cases hc : (Nat.ble (off + n * z) k && okL (r.cells off (n * z))) with
      | false => simp [hc] at e
      | true =>
        simp only [hc, cond_true, Option.some.injEq] at e
        subst e
        simp only [Bool.and_eq_true] at hc
        obtain ⟨vs, k1, k2, k3⟩ := RowR_cells h5 (Nat.le_of_ble_eq_true hc.1) hc.2
        exact ⟨vs, k1, run_firstCells_some w z n ⟨b1, off, none⟩ len _ vs k2 (fun j v hj => by rw [add_addr, cell_at h4]; exact k3 j v hj)⟩
    · cases e
  · rename_i s
    obtain rfl := str_of hv
    simp only [Option.some.injEq] at e
    subst e
    refine ⟨(s.take n).map fun b => .int .u8 b.toNat, ?_, ?_⟩
    · generalize s.take n = m
      induction m with
      | nil => rfl
      | cons x m ih => exact cvL_mk rfl ih
    · simp only [Builtin.firstCells, Sem.run_pure]
      congr 1
      apply Array.ext'
      simp [ByteArray.data_extract]
  · cases e

theorem vLen_ok {x : V} {n : Nat} {v : Value} (e : vLen x = some n) (hv : cvV ν x = some v) (w : World) : (Builtin.lenOf v).run P w = .ok n w := by
  unfold vLen at e
  split at e
  · obtain rfl := nsl_of hv
    simp only [Option.some.injEq] at e
    subst e
    simp [Builtin.lenOf]
  · obtain ⟨y, hy, rfl⟩ := sl_of hv
    simp only [Option.some.injEq] at e
    subst e
    simp [Builtin.lenOf]
  · obtain rfl := str_of hv
    simp only [Option.some.injEq] at e
    subst e
    simp [Builtin.lenOf]
    rfl
  · cases e

/-- A row in which cells are set, as a world. -/
theorem setCells_ok (g : Ga B0 W0 ν h w) {n k : Nat} {r : Tr S} {el z : Nat} {o : Bool} (hn : h.get n = .row k r el z o) {b sl : Nat} (hy : ν n = some (b, sl)) {off : Nat} {l : List S} {vs : List Value}
    (hl : cvL ν l = some vs) (hk : off + l.length ≤ k) :
    ∃ w', (storeCells ⟨b, off, none⟩ vs).run P w = .ok () w' ∧ Ga B0 W0 ν (h.put n (.row k (r.write off l) el z o)) w' := by
  obtain ⟨b1, sl1, cur, h1, _, _, h4, h5, h6, _⟩ := g.row hn
  rw [hy] at h1
  obtain ⟨rfl, rfl⟩ := Prod.mk.inj (Option.some.inj h1)
  have hlen := cvL_length hl
  have hst := run_storeCells_at P b off el vs 0 cur w h4 (by omega) (cvL_one hl)
  refine ⟨_, hst, g.setRow hn hy h4 (RowR_write h5 (by omega) hl hk) ?_⟩
  simp
  omega

theorem aCopy_ok (g : Ga B0 W0 ν h w) {dT sT ty : TypeId} {vd vs v : V} {d s : Value} {h' : H} (e : aCopy P h dT vd vs = some (v, h')) (hd : cvV ν vd = some d) (hs : cvV ν vs = some s) {ts : Array TypeId} (hts : ts[0]? = some dT) :
    ∃ u w', (Builtin.copy_ ts ty #[d, s]).run P w = .ok u w' ∧ Ga B0 W0 ν h' w' ∧ cvV ν v = some u := by
  have _ := sT
  unfold aCopy at e
  split at e
  · rename_i elem hu
    split at e
    · rename_i z dl sl hz hdl hsl
      simp only at e
      cases hf : aFirst h z (Nat.min sl dl) vs with
      | none => simp [hf] at e
      | some cells =>
        simp only [hf] at e
        obtain ⟨us, k1, k2⟩ := aFirst_ok (P := P) g hf hs
        cases hc : Nat.beq cells.length (Nat.min sl dl * z) with
        | false => simp [hc] at e
        | true =>
          simp only [hc, cond_true] at e
          have hcl := Nat.eq_of_beq_eq_true hc
          split at e
          · obtain rfl := nsl_of hd
            simp only [Option.some.injEq, Prod.mk.injEq] at e
            obtain ⟨rfl, rfl⟩ := e
            refine ⟨_, w, ?_, g, rfl⟩
            simp [Builtin.copy_, hts, run_underlying hu, vLen_ok hsl hs, sizeT_run hz, goInt]
            simp only [vLen, Option.some.injEq] at hdl
            subst hdl
            simp only [Nat.min_zero] at k2 ⊢
            simp [k2]
          · rename_i b off len c o
            obtain ⟨y, hy, rfl⟩ := sl_of hd
            split at e
            · rename_i k r el z' o' hn
              cases hk : Nat.ble (off + Nat.min sl dl * z) k with
              | false => simp [hk] at e
              | true =>
                simp only [hk, cond_true, Option.some.injEq, Prod.mk.injEq] at e
                obtain ⟨rfl, rfl⟩ := e
                obtain ⟨w', j1, j2⟩ := setCells_ok (P := P) g hn hy k1 (off := off) (by have := Nat.le_of_ble_eq_true hk; omega)
                refine ⟨_, w', ?_, j2, rfl⟩
                simp only [vLen, Option.some.injEq] at hdl
                subst hdl
                simp [Builtin.copy_, hts, run_underlying hu, vLen_ok hsl hs, sizeT_run hz, goInt, k2, j1]
            · cases e
          · cases e
    · cases e
  · cases e

theorem zeroCells_eq (z : Array Value) (n : Nat) : Builtin.zeroCells z n = ((List.replicate n z.toList).flatten).toArray := made_eq z n

theorem aClear_ok (g : Ga B0 W0 ν h w) {t ty : TypeId} {vd v : V} {d : Value} {h' : H} (e : aClear P h t vd = some (v, h')) (hd : cvV ν vd = some d) {ts : Array TypeId} (hts : ts[0]? = some t) :
    ∃ u w', (Builtin.clear_ ts ty #[d]).run P w = .ok u w' ∧ Ga B0 W0 ν h' w' ∧ cvV ν v = some u := by
  unfold aClear at e
  split at e
  · rename_i elem hu
    split at e
    · rename_i z zs hz hzs
      cases hc : Nat.beq zs.length z with
      | false => simp [hc] at e
      | true =>
        simp only [hc, cond_true] at e
        have hzl := Nat.eq_of_beq_eq_true hc
        split at e
        · obtain rfl := nsl_of hd
          simp only [Option.some.injEq, Prod.mk.injEq] at e
          obtain ⟨rfl, rfl⟩ := e
          exact ⟨_, w, by simp [Builtin.clear_, hts, run_underlying hu], g, rfl⟩
        · rename_i b off len c o
          obtain ⟨y, hy, rfl⟩ := sl_of hd
          split at e
          · rename_i k r el z' o' hn
            cases hk : Nat.ble (off + len * z) k with
            | false => simp [hk] at e
            | true =>
              simp only [hk, cond_true, Option.some.injEq, Prod.mk.injEq] at e
              obtain ⟨rfl, rfl⟩ := e
              have hkk := Nat.le_of_ble_eq_true hk
              obtain ⟨zv, hz1, hzc⟩ := zeroC_run hzs
              obtain ⟨w', j1, j2⟩ := setCells_ok (P := P) g hn hy (cvL_replicate (hzc ν) len) (off := off) (by simp [hzl]; exact hkk)
              cases len with
              | zero =>
                simp only [List.replicate_zero, List.flatten_nil, storeCells, Sem.run_pure, Result.ok.injEq, true_and] at j1
                subst j1
                exact ⟨_, w, by simp [Builtin.clear_, hts, run_underlying hu], j2, rfl⟩
              | succ len =>
                refine ⟨_, w', ?_, j2, rfl⟩
                simp [Builtin.clear_, hts, run_underlying hu, hz1, zeroCells_eq, j1]
          · cases e
        · cases e
    · cases e
  · cases e

theorem toBytes_ok : ∀ {l : List S} {bs : List UInt8} {vs : List Value}, aToBytes l = some bs → cvL ν l = some vs →
    ∃ ns : List Int, vs = ns.map (Value.int .u8) ∧ bs = ns.map (fun n => UInt8.ofNat n.toNat)
  | [], bs, vs, e, hv => by
    simp only [aToBytes, Option.some.injEq] at e
    simp only [cvL, Option.some.injEq] at hv
    subst e; subst hv
    exact ⟨[], rfl, rfl⟩
  | x :: l, bs, vs, e, hv => by
    unfold aToBytes at e
    split at e
    · rename_i heq
      cases heq
    · rename_i n l' heq
      obtain ⟨rfl, rfl⟩ := List.cons.inj heq
      obtain ⟨v, ws, h1, h2, rfl⟩ := cvL_cons hv
      cases hr : aToBytes l with
      | none => simp [hr] at e
      | some r =>
        simp only [hr, Option.some.injEq] at e
        subst e
        obtain ⟨ns, k1, k2⟩ := toBytes_ok hr h2
        simp only [cvS, Option.some.injEq] at h1
        exact ⟨(n : Int) :: ns, by rw [k1, ← h1]; rfl, by rw [k2]; simp⟩
    · cases e

theorem push_list (ns : List Int) : ∀ (acc : List UInt8), ns.foldl (fun r n => r.push (UInt8.ofNat n.toNat)) (ByteArray.mk acc.toArray) = ByteArray.mk (acc ++ ns.map fun n => UInt8.ofNat n.toNat).toArray := by
  induction ns with
  | nil => intro acc; simp
  | cons n ns ih =>
    intro acc
    simp only [List.foldl_cons, List.map_cons]
    have : (ByteArray.mk acc.toArray).push (UInt8.ofNat n.toNat) = ByteArray.mk (acc ++ [UInt8.ofNat n.toNat]).toArray := by
      apply ByteArray.ext
      simp [ByteArray.push]
    rw [this, ih]
    simp

theorem aBytesString_ok (g : Ga B0 W0 ν h w) {src dst : TypeId} {vx v : V} {a : Value} (e : aBytesString P h src dst vx = some v) (ha : cvV ν vx = some a) :
    ∃ u, (convert src dst a).run P w = .ok u w ∧ cvV ν v = some u := by
  unfold aBytesString at e
  split at e
  · rename_i el hs hd
    split at e
    · rename_i hel
      split at e
      · obtain rfl := nsl_of ha
        simp only [Option.some.injEq] at e
        subst e
        exact ⟨_, by simp [convert, run_underlying hs, run_underlying hd, run_underlying hel, Conv.bytesToString]; rfl, rfl⟩
      · rename_i b off len c o
        cases hf : aFirst h 1 len (.w (.s (.sl b off len c o))) with
        | none => simp [hf] at e
        | some l =>
          simp only [hf] at e
          cases hb : aToBytes l with
          | none => simp [hb] at e
          | some bs =>
            simp only [hb, Option.some.injEq] at e
            subst e
            obtain ⟨vs, k1, k2⟩ := aFirst_ok (P := P) g hf ha
            obtain ⟨ns, rfl, rfl⟩ := toBytes_ok hb k1
            obtain ⟨y, hy, rfl⟩ := sl_of ha
            refine ⟨_, ?_, rfl⟩
            have hl : (loadCells ⟨y.1, off, none⟩ len).run P w = .ok (ns.map (Value.int .u8)).toArray w := by simpa [Builtin.firstCells] using k2
            have hb := run_bytesToString (P := P) w ⟨y.1, off, none⟩ len (cond o (c + y.2) c) ns hl
            have he := push_list ns []
            simp only [List.nil_append] at he
            simp only [convert, Sem.run_bind, run_underlying hs, run_underlying hd, Result.andThen_ok, run_underlying hel, hb]
            congr 2
      · cases e
    · cases e
  · cases e

end
end Ai
end Go.Proofs.YtjmhkcfdmcjilaaGreat
namespace Go.Proofs.YtjmhkcfdmcjilaaGreat
namespace Ai
open Go.RowKit
section
variable {P : Program} {B0 : Nat} {W0 : World} {ν : Nu} {h : H} {w : World}

def isIntD : TypeDesc → Option Bool
  | .int _ => some true
  | .slice _ => some false
  | .string => some false
  | _ => none

/-- What is appended, as the machine has it. -/
structure NewsR (P : Program) (ts : Array TypeId) (i : TypeInfo) (z : Value) (vx : Value) (n : Nat) (vs : List Value) (w : World) : Prop where
  len : vs.length = n * i.size
  run : ∃ xT d, ts[1]? = some xT ∧ P.underlying xT = some d ∧
    ((isIntD d = some false ∧ (∀ w, (Builtin.lenOf vx).run P w = .ok n w) ∧ (Builtin.firstCells i.size n vx).run P w = .ok vs.toArray w ∧ (Builtin.firstCells i.size n vx).run P w.drew = .ok vs.toArray w.drew) ∨
     (isIntD d = some true ∧ (∃ k, vx = .int k (n : Int)) ∧ vs.toArray = Builtin.zeroCells z.cells n))

theorem aNews_ok (g : Ga B0 W0 ν h w) {ts : Array TypeId} {xT : Option TypeId} (hts : ts[1]? = xT) {i : TypeInfo} {zs new : List S} {x : V} {z vx : Value} {n : Nat} (hzc : cvL ν zs = some z.cells.toList)
    (hlen : new.length = n * i.size) (e : aNews P h xT i.size zs x = some (n, new)) (hx : cvV ν x = some vx) :
    ∃ vs, cvL ν new = some vs ∧ NewsR P ts i z vx n vs w := by
  unfold aNews aZeros at e
  cases xT with
  | none => simp at e
  | some t =>
    cases hu : P.underlying t with
    | none => simp [hu] at e
    | some d =>
      have other : isIntD d = some false → (match vLen x with
          | some n => (aFirst h i.size n x).map fun l => (n, l)
          | none => none) = some (n, new) → ∃ vs, cvL ν new = some vs ∧ NewsR P ts i z vx n vs w := fun hb e => by
        cases hl : vLen x with
        | none => simp [hl] at e
        | some m =>
          simp only [hl] at e
          cases hf : aFirst h i.size m x with
          | none => simp [hf] at e
          | some l =>
            simp only [hf, Option.map_some, Option.some.injEq, Prod.mk.injEq] at e
            obtain ⟨rfl, rfl⟩ := e
            obtain ⟨vs, k1, k2⟩ := aFirst_ok (P := P) g hf hx
            obtain ⟨vs', k1', k2'⟩ := aFirst_ok (P := P) g.drew hf hx
            rw [k1] at k1'
            obtain rfl := Option.some.inj k1'
            exact ⟨vs, k1, by rw [cvL_length k1, hlen], t, d, hts, hu, .inl ⟨hb, fun w => vLen_ok hl hx w, k2, k2'⟩⟩
      cases d with
      | int k =>
        simp only [hu] at e
        cases hn : vNat x with
        | none => simp [hn] at e
        | some m =>
          simp only [hn, Option.map_some, Option.some.injEq, Prod.mk.injEq] at e
          obtain ⟨rfl, rfl⟩ := e
          have k1 := cvL_replicate hzc m
          refine ⟨_, k1, by rw [cvL_length k1, hlen], t, .int k, hts, hu, .inr ⟨rfl, ?_, by rw [zeroCells_eq]⟩⟩
          exact vNat_of hn hx
      | slice _ => simp only [hu] at e; exact other rfl e
      | string => simp only [hu] at e; exact other rfl e
      | _ => simp [hu] at e

set_option maxHeartbeats 1000000 in
theorem append_room {ts : Array TypeId} {sT elem ty : TypeId} {i : TypeInfo} {z vx : Value} {n sLen sCap : Nat} {base : Option Addr} {vs : List Value} (h0 : ts[0]? = some sT) (hu : P.underlying sT = some (.slice elem)) (hi : P.info? elem = some i) (hz : i.zero = some z)
    (hN : NewsR P ts i z vx n vs w) (hb : n * (i.bytes + 1) ≤ 1000000) (hroom : sLen + n ≤ sCap) {w' : World}
    (hst : match base with | some a => (storeCells (a.add (sLen * i.size)) vs).run P w = .ok () w' | none => w' = w) :
    (Builtin.append_ ts ty #[.slice base sLen sCap, vx]).run P w = .ok (.slice base (sLen + n) sCap) w' := by
  obtain ⟨xT, d, hx, hd, h2⟩ := hN.run
  have hnn : n ≤ 1000000 := Nat.le_trans (Nat.le_mul_of_pos_right n (by omega)) hb
  have hnb : n * i.bytes ≤ 1000000 := Nat.le_trans (Nat.mul_le_mul_left n (by omega)) hb
  rcases h2 with ⟨hi0, k1, k2, k3⟩ | ⟨hi1, ⟨k, rfl⟩, k2⟩
  · cases d <;> first
      | (simp [isIntD] at hi0; done)
      | (cases base with
         | none => subst hst; simp [Builtin.append_, h0, hx, run_underlying hu, run_underlying hd, sizeOf, typeInfo, hi, k1, k2, hroom]
         | some a => simp at hst; simp [Builtin.append_, h0, hx, run_underlying hu, run_underlying hd, sizeOf, typeInfo, hi, k1, k2, hroom, hst])
  · cases d <;> first
      | (simp [isIntD] at hi1; done)
      | skip
    have hwrap : IntKind.i64.wrap (n : Int) = n := by rw [IntKind.wrap_i64]; omega
    have hlt : ¬ ((n : Int) < 0) := by omega
    have hbig : ¬ ((281474976710656 : Int) < (n : Int) * (i.bytes : Int)) := by
      have : ((n * i.bytes : Nat) : Int) ≤ 1000000 := Int.ofNat_le.2 hnb
      rw [Int.natCast_mul] at this
      omega
    by_cases hz0 : n * i.size = 0
    · have hvs : vs = [] := List.length_eq_zero_iff.1 (by rw [hN.len, hz0])
      subst hvs
      cases base with
      | none => subst hst; simp [Builtin.append_, h0, hx, run_underlying hu, run_underlying hd, sizeOf, typeInfo, hi, asInt, asIntOf, hwrap, hlt, hbig, hz0, hroom]
      | some a => simp at hst; simp [Builtin.append_, h0, hx, run_underlying hu, run_underlying hd, sizeOf, typeInfo, hi, asInt, asIntOf, hwrap, hlt, hbig, hz0, hroom, hst]
    · cases base with
      | none => subst hst; simp [Builtin.append_, h0, hx, run_underlying hu, run_underlying hd, sizeOf, typeInfo, hi, asInt, asIntOf, hwrap, hlt, hbig, hroom, zeroValue, hz]
      | some a => simp at hst; simp [Builtin.append_, h0, hx, run_underlying hu, run_underlying hd, sizeOf, typeInfo, hi, asInt, asIntOf, hwrap, hlt, hbig, hz0, hroom, zeroValue, hz, ← k2, hst]

set_option maxHeartbeats 1000000 in
theorem append_grow {ts : Array TypeId} {sT elem ty : TypeId} {i : TypeInfo} {z vx : Value} {n sLen sCap : Nat} {base : Option Addr} {vs olds : List Value} (h0 : ts[0]? = some sT) (hu : P.underlying sT = some (.slice elem)) (hi : P.info? elem = some i) (hz : i.zero = some z)
    (hN : NewsR P ts i z vx n vs w) (hb : (sLen + n) * (i.bytes + 1) ≤ 1000000) (hroom : sCap < sLen + n) (hold : (Builtin.firstCells i.size sLen (.slice base sLen sCap)).run P w.drew = .ok olds.toArray w.drew) :
    (Builtin.append_ ts ty #[.slice base sLen sCap, vx]).run P w =
      .ok (.slice (some ⟨w.heap.size, 0, none⟩) (sLen + n) (grownCap w (sLen + n) sCap elem))
        (w.drew.alloc (.cells (olds.toArray ++ vs.toArray ++ Builtin.zeroCells z.cells (grownCap w (sLen + n) sCap elem - (sLen + n))) elem)) := by
  obtain ⟨xT, d, hx, hd, h2⟩ := hN.run
  have hnn : sLen + n ≤ 1000000 := Nat.le_trans (Nat.le_mul_of_pos_right _ (by omega)) hb
  have hbb : (sLen + n) * i.bytes ≤ 1000000 := Nat.le_trans (Nat.mul_le_mul_left _ (by omega)) hb
  have hnb : n * i.bytes ≤ 1000000 := Nat.le_trans (Nat.mul_le_mul_right _ (by omega)) hbb
  have hno : ¬ (sLen + n ≤ sCap) := by omega
  have hfit := growslice_fits (need := sLen + n) (old := sCap) (bytes := i.bytes) hroom (by omega)
  have hfit' : ¬ (281474976710656 < Builtin.nextslicecap (sLen + n) sCap * i.bytes) := by omega
  have h63 : ¬ ((9223372036854775807 : Int) < (sLen : Int) + (n : Int)) := by omega
  have hmax : (IntKind.i64.max : Int) = 9223372036854775807 := rfl
  rcases h2 with ⟨hi0, k1, k2, k3⟩ | ⟨hi1, ⟨k, rfl⟩, k2⟩
  · cases d <;> first
      | (simp [isIntD] at hi0; done)
      | (simp [Builtin.append_, h0, hx, run_underlying hu, run_underlying hd, sizeOf, typeInfo, hi, k1, k3, hno, hmax, h63, hfit', Question.forced, hold, zeroValue, hz, newRow, grownCap, -List.append_toArray])
  · cases d <;> first
      | (simp [isIntD] at hi1; done)
      | skip
    have hwrap : IntKind.i64.wrap (n : Int) = n := by rw [IntKind.wrap_i64]; omega
    have hlt : ¬ ((n : Int) < 0) := by omega
    have hbig : ¬ ((281474976710656 : Int) < (n : Int) * (i.bytes : Int)) := by
      have : ((n * i.bytes : Nat) : Int) ≤ 1000000 := Int.ofNat_le.2 hnb
      rw [Int.natCast_mul] at this
      omega
    by_cases hz0 : n * i.size = 0
    · have hvs : vs = [] := List.length_eq_zero_iff.1 (by rw [hN.len, hz0])
      subst hvs
      simp [Builtin.append_, h0, hx, run_underlying hu, run_underlying hd, sizeOf, typeInfo, hi, asInt, asIntOf, hwrap, hlt, hbig, hz0, hno, hmax, h63, hfit', Question.forced, hold, zeroValue, hz, newRow, grownCap, -List.append_toArray]
    · simp [Builtin.append_, h0, hx, run_underlying hu, run_underlying hd, sizeOf, typeInfo, hi, asInt, asIntOf, hwrap, hlt, hbig, hz0, hno, hmax, h63, hfit', Question.forced, hold, zeroValue, hz, newRow, grownCap, ← k2, -List.append_toArray]

theorem firstRow {b off n z len cap : Nat} {cur : Array Value} {el : TypeId} (hb : w.heap[b]? = some (.cells cur el (0, 0))) (hk : off + n * z ≤ cur.size) :
    (Builtin.firstCells z n (.slice (some ⟨b, off, none⟩) len cap)).run P w = .ok ((cur.toList.drop off).take (n * z)).toArray w := by
  refine run_firstCells_some w z n ⟨b, off, none⟩ len cap _ (by simp; omega) fun j v hj => ?_
  rw [add_addr, cell_at hb]
  rw [List.getElem?_take] at hj
  split at hj
  · rw [List.getElem?_drop] at hj; simpa using hj
  · cases hj

theorem RowR_write_to {k : Nat} {t : Tr S} {cur : Array Value} (r : RowR ν k t cur) {off : Nat} (hoff : off ≤ k) {l : List S} {vs : List Value} (hl : cvL ν l = some vs) (ht : off + l.length ≤ top) (hc : off ≤ cur.size) (rest : List Value) :
    RowR ν (off + l.length) (t.write off l) (cur.toList.take off ++ vs ++ rest).toArray := by
  have hlen := cvL_length hl
  refine ⟨ht, fun i hi => ?_⟩
  rw [Tr.get_write l t off ht]
  have hto : (cur.toList.take off).length = off := by simp; omega
  by_cases h1 : off ≤ i
  · rw [if_pos h1]
    have hlt : i - off < l.length := by omega
    have h2 := cvL_get hl (i - off)
    rw [List.getElem?_eq_getElem hlt, List.getElem?_eq_getElem (by omega)] at h2
    simp only [Option.bind_some] at h2
    refine .inr ⟨vs[i - off]'(by omega), ?_, by simp only [List.getElem?_eq_getElem hlt]; exact h2.symm⟩
    rw [List.getElem?_toArray, List.append_assoc, List.getElem?_append_right (by omega), hto, List.getElem?_append_left (by omega), List.getElem?_eq_getElem]
  · rw [if_neg h1]
    rcases r.2 i (by omega) with h2 | ⟨v, h2, h3⟩
    · exact .inl h2
    · refine .inr ⟨v, ?_, h3⟩
      rw [List.getElem?_toArray, List.append_assoc, List.getElem?_append_left (by omega), List.getElem?_take_of_lt (by omega), Array.getElem?_toList]
      exact h2

/-- A row that begins as cells of another one, moved. -/
theorem RowR_moved {k : Nat} {t : Tr S} {cur : Array Value} (r : RowR ν k t cur) {off m : Nat} (hk : off + m ≤ k) (hc : off + m ≤ cur.size) {l : List S} {vs : List Value} (hl : cvL ν l = some vs) (ht : m + l.length ≤ top) {t' : Tr S}
    (hget : ∀ i, i < m + l.length → t'.get i = if i < m then t.get (off + i) else (match l[i - m]? with | some x => x | none => .any)) (rest : List Value) :
    RowR ν (m + l.length) t' ((cur.toList.drop off).take m ++ vs ++ rest).toArray := by
  have hlen := cvL_length hl
  refine ⟨ht, fun i hi => ?_⟩
  rw [hget i hi]
  have hto : ((cur.toList.drop off).take m).length = m := by simp; omega
  by_cases h1 : i < m
  · rw [if_pos h1]
    rcases r.2 (off + i) (by omega) with h2 | ⟨v, h2, h3⟩
    · exact .inl h2
    · refine .inr ⟨v, ?_, h3⟩
      rw [List.getElem?_toArray, List.append_assoc, List.getElem?_append_left (by omega), List.getElem?_take_of_lt h1, List.getElem?_drop, Array.getElem?_toList]
      exact h2
  · rw [if_neg h1]
    have hlt : i - m < l.length := by omega
    have h2 := cvL_get hl (i - m)
    rw [List.getElem?_eq_getElem hlt, List.getElem?_eq_getElem (by omega)] at h2
    simp only [Option.bind_some] at h2
    refine .inr ⟨vs[i - m]'(by omega), ?_, by simp only [List.getElem?_eq_getElem hlt]; exact h2.symm⟩
    rw [List.getElem?_toArray, List.append_assoc, List.getElem?_append_right (by omega), hto, List.getElem?_append_left (by omega), List.getElem?_eq_getElem]

/-- The facts about an element type that append needs. -/
structure ElemR (P : Program) (ν : Nu) (elem : TypeId) (i : TypeInfo) (z : Value) (zs : List S) : Prop where
  info : P.info? elem = some i
  zero : i.zero = some z
  cv : ∀ ν, cvL ν zs = some z.cells.toList
  len : zs.length = i.size
  size : z.cells.size = i.size
  pos : 0 < i.size

theorem grown_rest {i : TypeInfo} {z : Value} {zs : List S} {elem : TypeId} (E : ElemR P ν elem i z zs) (m : Nat) : (Builtin.zeroCells z.cells m).toList.length = m * i.size := by
  rw [Array.length_toList, size_zeroCells, E.size]

theorem aLay_ok (g : Ga B0 W0 ν h w) {ts : Array TypeId} {sT elem ty : TypeId} {i : TypeInfo} {z vx s : Value} {zs new : List S} {n : Nat} {vs : List Value} {vS v : V} {h' : H} (h0 : ts[0]? = some sT) (hu : P.underlying sT = some (.slice elem))
    (E : ElemR P ν elem i z zs) (hN : NewsR P ts i z vx n vs w) (hcv : cvL ν new = some vs) (hs : cvV ν vS = some s) (e : aLay h elem i.size i.bytes vS n new = some (v, h')) :
    ∃ u ν' w', (Builtin.append_ ts ty #[s, vx]).run P w = .ok u w' ∧ ν.le ν' ∧ Ga B0 W0 ν' h' w' ∧ cvV ν' v = some u := by
  have hnl : new.length = n * i.size := by rw [← cvL_length hcv]; exact hN.len
  unfold aLay at e
  split at e
  · obtain rfl := nsl_of hs
    by_cases hn : n = 0
    · simp only [hn, beq_dec, decide_true, cond_true, Option.some.injEq, Prod.mk.injEq] at e
      obtain ⟨rfl, rfl⟩ := e
      subst hn
      exact ⟨_, ν, w, append_room h0 hu E.info E.zero hN (by simp) (Nat.le_refl _) rfl, Nu.le_refl ν, g, rfl⟩
    · simp only [hn, beq_dec, decide_false, cond_false] at e
      cases hc : (Nat.blt (n * i.size) top && Nat.ble (n * (i.bytes + 1)) 1000000) with
      | false => simp [hc] at e
      | true =>
        simp only [hc, cond_true] at e
        simp only [Bool.and_eq_true, Nat.blt, ble_dec, decide_eq_true_eq] at hc
        split at e
        · rename_i q m h1 hh
          simp only [Option.some.injEq, Prod.mk.injEq] at e
          obtain ⟨rfl, rfl⟩ := e
          have hge := grownCap_ge w n 0 elem
          have hrun := append_grow (P := P) (w := w) (sLen := 0) (sCap := 0) (base := none) (olds := []) (ty := ty) h0 hu E.info E.zero hN (by simpa using hc.2) (by omega) (by simp [Builtin.firstCells])
          simp only [Nat.zero_add] at hrun
          obtain ⟨ν', k1, k2, k3⟩ := newRow_ok g.drew hcv hnl (by omega) (get_fresh (by omega) .ni) true (grownCap w n 0 elem - n) (Builtin.zeroCells z.cells (grownCap w n 0 elem - n)).toList (grown_rest E _) (by simp) hh
          have heq : ((vs ++ (Builtin.zeroCells z.cells (grownCap w n 0 elem - n)).toList).toArray) = (([] : List Value).toArray ++ vs.toArray ++ Builtin.zeroCells z.cells (grownCap w n 0 elem - n)) := by
            apply Array.ext'; simp
          rw [heq] at k3
          refine ⟨_, ν', _, hrun, k1, k3, ?_⟩
          have := sl_mk 0 n n true k2
          rw [this]
          simp only [cond_true]
          congr 2
          omega
        · cases e
  · rename_i b off len c o
    obtain ⟨y, hy, rfl⟩ := sl_of hs
    split at e
    · rename_i k r el z' o' hn
      obtain ⟨b1, sl, cur, h1, hB, hlt, h4, h5, h6, h7⟩ := g.row hn
      rw [hy] at h1
      obtain rfl : y = (b1, sl) := Option.some.inj h1
      simp only at hs ⊢
      cases hc : (Nat.beq i.size z' && Nat.blt (off + (len + n) * i.size) top && Nat.ble ((len + n) * (i.bytes + 1)) 1000000) with
      | false => simp [hc] at e
      | true =>
        simp only [hc, cond_true] at e
        simp only [Bool.and_eq_true, Nat.blt, ble_dec, beq_dec, decide_eq_true_eq] at hc
        obtain ⟨⟨rfl, c2⟩, c3⟩ := hc
        have hmul : (len + n) * i.size = len * i.size + n * i.size := Nat.add_mul _ _ _
        have hnb : n * (i.bytes + 1) ≤ 1000000 := Nat.le_trans (Nat.mul_le_mul_right _ (by omega)) c3
        by_cases hroom : len + n ≤ c
        · simp only [ble_dec, hroom, decide_true, cond_true] at e
          by_cases hk : off + (len + n) * i.size ≤ k
          · simp only [hk, decide_true, cond_true, Option.some.injEq, Prod.mk.injEq] at e
            obtain ⟨rfl, rfl⟩ := e
            obtain ⟨w', j1, j2⟩ := setCells_ok (P := P) g hn hy hcv (off := off + len * i.size) (by omega)
            have hroom' : len + n ≤ cond o (c + sl) c := by cases o <;> simp <;> omega
            refine ⟨_, ν, w', append_room h0 hu E.info E.zero hN hnb hroom' (by simp only [add_addr]; exact j1), Nu.le_refl ν, j2, sl_mk _ _ _ _ hy⟩
          · simp [hk] at e
        · simp only [ble_dec, hroom, decide_false, cond_false] at e
          by_cases hk : off + len * i.size ≤ k
          · simp only [hk, decide_true, cond_true] at e
            have hfirst := fun cap => firstRow (P := P) (w := w.drew) (b := b1) (off := off) (n := len) (z := i.size) (len := len) (cap := cap) (cur := cur) (el := el) h4 (by omega)
            -- elsewhere
            have grow : ∀ (cap : Nat), cap < len + n → ∀ {t' : Tr S} {hd : H} {m : Nat}, Ga B0 W0 ν hd w.drew → hd.new (.row ((len + n) * i.size) t' elem i.size true) = some (m, h') → v = .w (.s (.sl m 0 (len + n) (len + n) true)) →
                (∀ j, j < len * i.size + new.length → t'.get j = if j < len * i.size then r.get (off + j) else (match new[j - len * i.size]? with | some x => x | none => .any)) →
                ∃ u ν' w', (Builtin.append_ ts ty #[.slice (some ⟨b1, off, none⟩) len cap, vx]).run P w = .ok u w' ∧ ν.le ν' ∧ Ga B0 W0 ν' h' w' ∧ cvV ν' v = some u := fun cap hcap t' hd m gd hh hv hget => by
              have hge := grownCap_ge w (len + n) cap elem
              have hrun := append_grow (P := P) (w := w) (ty := ty) h0 hu E.info E.zero hN c3 hcap (hfirst cap)
              have hrow := RowR_moved h5 hk (by omega) hcv (by omega) hget (Builtin.zeroCells z.cells (grownCap w (len + n) cap elem - (len + n))).toList
              have hkk : len * i.size + new.length = (len + n) * i.size := by omega
              rw [hkk] at hrow
              obtain ⟨k1, k2⟩ := gd.new hh (by simp) (grownCap w (len + n) cap elem - (len + n)) (.cells _ elem) ⟨_, rfl, hrow, by
                have := grown_rest E (grownCap w (len + n) cap elem - (len + n))
                have hvl := hN.len
                simp at this ⊢
                rw [this]; omega, by simp⟩
              refine ⟨_, _, _, hrun, k1, ?_, ?_⟩
              · have heq : (((cur.toList.drop off).take (len * i.size)).toArray ++ vs.toArray ++ Builtin.zeroCells z.cells (grownCap w (len + n) cap elem - (len + n))) =
                    (((cur.toList.drop off).take (len * i.size)) ++ vs ++ (Builtin.zeroCells z.cells (grownCap w (len + n) cap elem - (len + n))).toList).toArray := by
                  apply Array.ext'; simp
                rw [heq]; exact k2
              · rw [hv, sl_mk (y := (w.drew.heap.size, grownCap w (len + n) cap elem - (len + n))) 0 (len + n) (len + n) true (by simp [Nu.upd])]
                simp only [cond_true]
                have : len + n + (grownCap w (len + n) cap elem - (len + n)) = grownCap w (len + n) cap elem := by omega
                rw [this]
                rfl
            cases o with
            | false =>
              simp only [cond_false] at e ⊢
              split at e
              · rename_i q m h1 hh
                simp only [Option.some.injEq, Prod.mk.injEq] at e
                obtain ⟨rfl, rfl⟩ := e
                refine grow c (by omega) g.drew hh rfl fun j hj => ?_
                rw [Tr.get_write _ _ 0 (by simp [Tr.length_cells]; omega), if_pos (Nat.zero_le j)]
                simp only [Nat.sub_zero]
                by_cases hjm : j < len * i.size
                · rw [if_pos hjm, List.getElem?_append_left (by rw [Tr.length_cells]; exact hjm), Tr.get_cells, if_pos hjm]
                · rw [if_neg hjm, List.getElem?_append_right (by rw [Tr.length_cells]; omega), Tr.length_cells]
                  have hlt : j - len * i.size < new.length := by omega
                  rw [List.getElem?_eq_getElem hlt]
              · cases e
            | true =>
              simp only [cond_true] at e ⊢
              cases hq : (Nat.beq off 0 && Nat.beq k (c * i.size) && Nat.beq el elem && o') with
              | false => simp only [hq, cond_false, reduceCtorEq] at e
              | true =>
                simp only [hq, cond_true] at e
                simp only [Bool.and_eq_true, beq_dec, decide_eq_true_eq] at hq
                obtain ⟨⟨⟨rfl, hkc⟩, rfl⟩, rfl⟩ := hq
                split at e
                · rename_i q m h1 hh
                  simp only [Option.some.injEq, Prod.mk.injEq] at e
                  obtain ⟨rfl, rfl⟩ := e
                  by_cases hin : len + n ≤ c + sl
                  · -- in its place
                    have hsz : cur.size = (c + sl) * i.size := by rw [h6, hkc, Nat.add_mul]
                    have hle : (len + n) * i.size ≤ (c + sl) * i.size := Nat.mul_le_mul_right _ hin
                    have hvl := hN.len
                    have hst := run_storeCells_at P b1 (len * i.size) el vs 0 cur w h4 (by omega) (cvL_one hcv)
                    simp only [Nat.add_zero] at hst
                    have hrow := RowR_write_to (off := len * i.size) h5 (by omega) hcv (by omega) (by omega) (cur.toList.drop (len * i.size + vs.length))
                    have hkk : len * i.size + new.length = (len + n) * i.size := by omega
                    rw [hkk] at hrow
                    have hsub : (c + sl - (len + n)) * i.size = (c + sl) * i.size - (len + n) * i.size := Nat.sub_mul _ _ _
                    obtain ⟨k1, k2⟩ := g.rename hn hy h4 hh hrow (c + sl - (len + n)) (by simp; omega)
                    refine ⟨_, _, _, append_room h0 hu E.info E.zero hN hnb hin (by simp only [add_addr, Nat.zero_add]; exact hst), k1, k2, ?_⟩
                    rw [sl_mk (y := (b1, c + sl - (len + n))) 0 (len + n) (len + n) true (by simp [Nu.upd])]
                    simp only [cond_true]
                    congr 2
                    omega
                  · have hnn : h.get b ≠ .none := by rw [hn]; simp
                    refine grow (c + sl) (by omega) (g.drew.dead hnn) hh rfl fun j hj => ?_
                    rw [Tr.get_write _ _ _ (by omega)]
                    by_cases hjm : j < len * i.size
                    · rw [if_pos hjm, if_neg (by omega), Nat.zero_add]
                    · rw [if_neg hjm, if_pos (by omega)]
                      have hlt : j - len * i.size < new.length := by omega
                      rw [List.getElem?_eq_getElem hlt]
                · cases e
          · simp [hk] at e
    · cases e
  · cases e

end
end Ai
end Go.Proofs.YtjmhkcfdmcjilaaGreat
