/-
  Plain: what TopLogged needs of records, pages and their order.
-/
import Derived.Test.YtjmhkcfdmcjilaaGreatLqA
import Derived.Test.YtjmhkcfdmcjilaaGreatLqC
import Derived.MapKept
import Derived.Test.YtjmhkcfdmcjilaaGreatLpO
import Derived.Test.YtjmhkcfdmcjilaaGreatLqB
/- Walk: leaf.whole of a stream's pages. -/
/- Walk: leaf.whole of a stream's pages. -/
set_option linter.unusedVariables false
set_option linter.unusedSimpArgs false
namespace Go.Proofs.YtjmhkcfdmcjilaaGreat
namespace Lo
open Go.RowKit Ai Fi

/-- Pages in a row. -/
def PgsAt (w : World) (g : Nat) (ps : List Pg) : Prop := ∀ (j : Nat) (p : Pg), ps[j]? = some p → PgAt w g (j * 39) p

theorem PgsAt.below {w w' : World} {g : Nat} {ps : List Pg} (h : PgsAt w g ps) (hb : Below w.heap.size w w') : PgsAt w' g ps := fun j p hj => (h j p hj).below hb

theorem pgsV_get : ∀ (ps : List Pg), (∀ p ∈ ps, p.pay.length = 32) → ∀ (j : Nat) (p : Pg), ps[j]? = some p → ∀ (i : Nat) (v : Value), p.cells[i]? = some v → (pgsV ps)[j * 39 + i]? = some v
  | [], _, j, p, hj, i, v, hv => by simp at hj
  | q :: r, h, 0, p, hj, i, v, hv => by
    simp only [List.getElem?_cons_zero, Option.some.injEq] at hj
    subst hj
    have hl := pg_len (h q (.head _))
    have hi := (List.getElem?_eq_some_iff.1 hv).1
    show (q.cells ++ pgsV r)[0 * 39 + i]? = _
    rw [List.getElem?_append_left (by omega)]
    simpa using hv
  | q :: r, h, j + 1, p, hj, i, v, hv => by
    have hl := pg_len (h q (.head _))
    have ih := pgsV_get r (fun y hy => h y (.tail _ hy)) j p (by simpa using hj) i v hv
    show (q.cells ++ pgsV r)[(j + 1) * 39 + i]? = _
    rw [List.getElem?_append_right (by omega), hl, show (j + 1) * 39 + i - 39 = j * 39 + i by omega]
    exact ih

theorem PgsAt.of_own {w : World} {base m : Nat} {g cap : Nat} {ps : List Pg} (h : w.ownsRow base 55 39 (.slice (some ⟨g, 0, none⟩) m cap) m (pgsV ps)) (hp : ∀ p ∈ ps, p.pay.length = 32) : PgsAt w g ps := fun j p hj =>
  ⟨(h.lt g rfl).2, fun i v hv => by
    have h1 := pgsV_get ps hp j p hj i v hv
    have h2 := (List.getElem?_eq_some_iff.1 h1).1
    rw [h.cellAt (j * 39 + i) (by rw [← h.1]; exact h2), h1]⟩

theorem wpList_make_row {P : Program} {w : World} {ops : Array Oper} {rest : List Oper} {o : Oper} {a : Act} {Q : Exit → Act → World → Prop} (hg : o.guard = none) (l c : Operand) (t : TypeId) (hop : o.op = Op.makeSlice t l c)
    (e : TypeId) (i : TypeInfo) (z : Value) (b : Nat) (h1 : P.underlying t = some (.slice e)) (h2 : P.info? e = some i) (h3 : i.zero = some z) (hz : z.cells = #[z]) (h4 : i.size = 1) (h5 : i.bytes = b) (hb : b ≤ 100)
    (n : Nat) (hl : a.eval l = .int .i64 n) (hc : a.eval c = .int .i64 n) (hn : n ≤ 100000000)
    (hK : ∀ w', RowV w' w.heap.size e (List.replicate n z) → Below w.heap.size w w' → wpList P ops Q rest (a.put o.dst (.slice (some ⟨w.heap.size, 0, none⟩) n n)) w') : wpList P ops Q (o :: rest) a w := by
  have hbn : (b : Int) * (n : Int) ≤ 281474976710656 := by
    have h6 : b * n ≤ 100 * 100000000 := Nat.mul_le_mul hb hn
    have h7 : ((b * n : Nat) : Int) = (b : Int) * (n : Int) := by simp
    omega
  have hrun := run_make (P := P) w t e i _ h1 h2 h3 .i64 .i64 n n (by omega) (Int.le_refl _) (by rw [h5]; exact hbn) (by omega)
  rw [h4, Nat.mul_one, Int.toNat_natCast] at hrun
  have hrow : RowV (w.alloc (.cells (madeCells z.cells n) e)) w.heap.size e (List.replicate n z) := by
    unfold RowV
    rw [heap_alloc_new]
    congr 2
    apply Array.ext'
    rw [hz]
    apply List.ext_getElem (by simp [madeCells])
    intro i h1 h2
    simp [madeCells, Nat.mod_one]
  refine wpList_plain hg fun K hK' => ?_
  unfold Oper.wp
  simp [execOp, hop, hl, hc, hrun, Result.andThen]
  exact hK' _ _ (hK _ hrow ((Below.refl w.heap.size w).alloc (Nat.le_refl _) _))

/-- A pointer to a page's payload. -/
def payP : Option Nat → Value
  | none => .pointer none
  | some q => .pointer (some ⟨q, 7, none⟩)

def partsV (T : Nat) (f : Nat → Option Nat) : List Value := (List.range T).map fun i => payP (f i)

theorem parts_none (T : Nat) : List.replicate T (.pointer none) = partsV T (fun _ => none) := by
  apply List.ext_getElem (by simp [partsV])
  intro i h1 h2
  simp [partsV, payP]

theorem parts_set (T : Nat) (f : Nat → Option Nat) (i q : Nat) : (partsV T f).set i (payP (some q)) = partsV T (fun k => if k = i then some q else f k) := by
  apply List.ext_getElem (by simp [partsV])
  intro k h1 h2
  rw [List.getElem_set]
  simp only [partsV, List.getElem_map, List.getElem_range]
  by_cases h : i = k
  · rw [if_pos h, if_pos h.symm]
  · rw [if_neg h, if_neg (fun e => h e.symm)]

theorem parts_get {T : Nat} {f : Nat → Option Nat} {i : Nat} (h : i < T) : (partsV T f)[i]? = some (payP (f i)) := by
  simp [partsV, h]

theorem flat_full (k ep gr : Int) (bs : List Int) : ∀ (t : Nat), 32 * t ≤ bs.length → (List.range t).flatMap (fun i => (lcutP k ep gr bs i).pay) = bs.take (32 * t)
  | 0, _ => by simp
  | t + 1, h => by
    rw [List.range_succ, List.flatMap_append, flat_full k ep gr bs t (by omega)]
    have hl : ((bs.drop (t * 32)).take 32).length = 32 := by rw [List.length_take, List.length_drop]; omega
    have e : (lcutP k ep gr bs t).pay = (bs.drop (t * 32)).take 32 := by
      show pad _ = _
      unfold pad
      rw [hl]; simp
    rw [show 32 * (t + 1) = 32 * t + 32 by omega, List.take_add]
    simp only [List.flatMap_cons, List.flatMap_nil, List.append_nil, e]
    rw [Nat.mul_comm]

theorem flat_pay (k ep gr : Int) (bs : List Int) : ∀ (T : Nat), bs.length ≤ 32 * T → 32 * T < bs.length + 32 → (List.range T).flatMap (fun i => (lcutP k ep gr bs i).pay) = bs ++ List.replicate (32 * T - bs.length) 0
  | 0, h, _ => by
    have : bs = [] := List.eq_nil_of_length_eq_zero (by omega)
    subst this; rfl
  | t + 1, h, h2 => by
    rw [List.range_succ, List.flatMap_append, flat_full k ep gr bs t (by omega)]
    have hl : ((bs.drop (t * 32)).take 32) = bs.drop (t * 32) := List.take_of_length_le (by rw [List.length_drop]; omega)
    have e : (lcutP k ep gr bs t).pay = bs.drop (t * 32) ++ List.replicate (32 * (t + 1) - bs.length) 0 := by
      show pad _ = _
      unfold pad
      rw [hl, List.length_drop, show 32 - (bs.length - t * 32) = 32 * (t + 1) - bs.length by omega]
    simp only [List.flatMap_cons, List.flatMap_nil, List.append_nil, e]
    rw [Nat.mul_comm t 32, ← List.append_assoc, List.take_append_drop]

theorem own_prefix {w : World} {base n m g cap : Nat} {e : TypeId} {xs : List Value} (h : w.ownsRow base e 1 (.slice (some ⟨g, 0, none⟩) m cap) m xs) (hn : n ≤ m) : w.ownsRow base e 1 (.slice (some ⟨g, 0, none⟩) n cap) n (xs.take n) := by
  rcases h with ⟨h1, ⟨h2, _⟩ | ⟨g', cap', cur, h3, h4, h5, h6, h7, h8, h9⟩⟩
  · cases h2
  · simp only [Value.slice.injEq, Option.some.injEq, Addr.mk.injEq, and_true, true_and] at h3
    obtain ⟨rfl, rfl⟩ := h3
    refine ⟨by rw [List.length_take, h1]; omega, .inr ⟨g, cap, cur, rfl, h4, h5, by omega, h7, h8, ?_⟩⟩
    rw [← h9, List.take_take]
    congr 1; omega
end Lo
end Go.Proofs.YtjmhkcfdmcjilaaGreat
set_option linter.unusedVariables false
set_option linter.unusedSimpArgs false
namespace Go.Proofs.YtjmhkcfdmcjilaaGreat
namespace Lo
open Go.RowKit Ai Fi

def WholePost (w : World) (bs : List Int) (e : Ending) (w' : World) : Prop := ∃ v, e = .returned (.tuple #[v, .bool true]) ∧ w'.ownsRow w.heap.size 5 1 v bs.length (byI bs) ∧ Below w.heap.size w w'

theorem info169 : (Tryz.prog.info? 169).map (fun i => (i.zero, i.size, i.bytes)) = some (some (.pointer none), 1, 8) := by kernel_rfl

theorem lcut_ok {k ep gr : Int} {bs : List Int} {i : Nat} (hb : ∀ x ∈ bs, 0 ≤ x ∧ x ≤ 255) : (lcutP k ep gr bs i).pay.length = 32 ∧ ∀ x ∈ (lcutP k ep gr bs i).pay, 0 ≤ x ∧ x ≤ 255 := by
  refine ⟨pad_len (by simp; omega), fun x hx => ?_⟩
  have hx2 : x ∈ pad ((bs.drop (i * 32)).take 32) := hx
  unfold pad at hx2
  rw [List.mem_append] at hx2
  rcases hx2 with h | h
  · exact hb x (List.mem_of_mem_drop (List.mem_of_mem_take h))
  · rw [List.mem_replicate] at h; omega

set_option maxHeartbeats 4000000 in
set_option maxRecDepth 100000 in
theorem whole58_ok (w : World) (k ep gr : Int) (bs : List Int) (is : List Nat) (g m cap T : Nat) (hT : pagesV (bs.length : Int) = T) (hn1 : 1 ≤ bs.length) (hn2 : bs.length ≤ 65536) (hby : ∀ x ∈ bs, 0 ≤ x ∧ x ≤ 255)
    (hnd : is.Nodup) (hmem : ∀ i, i ∈ is ↔ i < T) (hm : is.length = m) (hmT : m ≤ 2048) (hP : PgsAt w g (is.map (lcutP k ep gr bs))) :
    Calls Tryz.prog 58 #[.slice (some ⟨g, 0, none⟩) m cap] w (WholePost w bs) := by
  have HP := Ai.Aside.mk hP
  have HTV := Ai.Aside.mk hT
  have HBY := Ai.Aside.mk hby
  have HND := Ai.Aside.mk hnd
  have HMEM := Ai.Aside.mk hmem
  have HM := Ai.Aside.mk hm
  have hTb : (bs.length : Int) ≤ 32 * T ∧ 32 * (T : Int) < bs.length + 32 ∧ T ≤ 2048 := by
    have h2 := hT
    unfold pagesV at h2
    split at h2 <;> (try split at h2) <;> omega
  have hm1 : 0 < m := by
    rw [← hm]
    exact List.length_pos_iff.2 (fun e => by have := (hmem 0).2 (by omega); rw [e] at this; cases this)
  have HPG := Ai.Aside.mk (fun W => pages_ok (bs.length : Int) W)
  rw [hT] at HPG
  obtain ⟨n, hn⟩ : ∃ n, n = bs.length := ⟨_, rfl⟩
  have HN := Ai.Aside.mk hn
  rw [← hn] at HPG hn1 hn2 hTb
  obtain ⟨i0, hi, hz0, hz1, hz2⟩ := info_parts info169
  have HI := Ai.Aside.mk (And.intro hi (And.intro hz0 (And.intro hz1 hz2)))
  clear hP hT hby hnd hmem hm hn hi hz0 hz1 hz2
  obtain ⟨i1, h1⟩ : ∃ i1, is[0]? = some i1 := ⟨_, List.getElem?_eq_getElem (by rw [HM.out]; exact hm1)⟩
  have hp0 := HP.out 0 (lcutP k ep gr bs i1) (by rw [List.getElem?_map, h1]; rfl)
  obtain ⟨-, c1, -⟩ := hp0.facts
  have c1' : w.cell? ⟨g, 1, none⟩ = some (.int .u32 n) := by rw [HN.out]; simpa [lcutP] using c1
  have hgl : g < w.heap.size := hp0.1
  have hmc : (n : Int) % 4294967296 = (n : Int) := by omega
  clear c1 hp0 h1
  go_enter Tryz.func58, Tryz.ntmps58
  go_upto_region 7 with (first | (go_at_call 12; go_loud (refine (HPG.out _).mono ?_; rintro e w2 ⟨rfl, hw⟩; have hw2 := hw.symm; clear hw; subst hw2)) | ((with_reducible refine wpList_make_row rfl _ _ 168 rfl 169 i0 (.pointer none) 8 Tryz.underlying168 HI.out.1 HI.out.2.1 ?_ HI.out.2.2.1 HI.out.2.2.2 ?_ T ?_ ?_ ?_ ?_); (rfl); (decide); (kernel_rfl); (kernel_rfl); (omega); intro w3 hrow hbel; have HR3 := Ai.Aside.mk hrow; have HB3 := Ai.Aside.mk hbel; clear hrow hbel))
  obtain ⟨gp, hgp⟩ : ∃ gp, gp = w.heap.size := ⟨_, rfl⟩
  rw [← hgp] at HR3 ⊢
  have HGP := Ai.Aside.mk hgp
  have HR4 := Ai.Aside.mk (show RowV w3 gp 169 (partsV T (fun _ => none)) by rw [← parts_none]; exact HR3.out)
  have hi169 := HI
  clear HR3 hgp HI
  go_loopw [27] (fun v27 wr => ∃ (j : Nat) (f : Nat → Option Nat), j ≤ m ∧ v27 = .int .i64 j ∧ Ai.Aside (RowV wr gp 169 (partsV T f) ∧ (∀ i q, f i = some q → gp < q ∧ PgAt wr q 0 (lcutP k ep gr bs i)) ∧ (∀ i, (f i).isSome = true ↔ i ∈ is.take j) ∧ Below w.heap.size w wr)) (fun v27 _ => m - (intOf v27).toNat)
  case atStart => exact ⟨0, fun _ => none, by omega, rfl, ⟨HR4.out, (fun i q h => by cases h), (fun i => by simp), HB3.out⟩⟩
  case round =>
    obtain ⟨j, f, hj, rfl, HR⟩ := hrel
    clear HR4 HB3
    by_cases hlt : j < m
    · obtain ⟨ii, hii⟩ : ∃ ii, is[j]? = some ii := ⟨_, List.getElem?_eq_getElem (by rw [HM.out]; exact hlt)⟩
      have HPA := Ai.Aside.mk ((HP.out j (lcutP k ep gr bs ii) (by rw [List.getElem?_map, hii]; rfl)).below HR.out.2.2.2)
      have hiT : ii < T := (HMEM.out ii).1 (List.mem_of_getElem? hii)
      have hfn : f ii = none := by
        cases hf : f ii with
        | none => rfl
        | some q =>
          have h1 := (HR.out.2.2.1 ii).1 (by rw [hf]; rfl)
          obtain ⟨j2, hj2, e2⟩ := List.getElem_of_mem h1
          rw [List.length_take] at hj2
          have h3 : is[j2]? = some ii := by
            rw [← e2, List.getElem_take]; exact List.getElem?_eq_getElem (by omega)
          have h4 := (List.getElem?_inj (by omega) HND.out).1 (h3.trans hii.symm)
          omega
      have hpl := (lcut_ok (k := k) (ep := ep) (gr := gr) (i := ii) HBY.out).1
      have HLN := Ai.Aside.mk (show Pg.zero.cells.length = (lcutP k ep gr bs ii).cells.length by rw [pg_len hpl]; rfl)
      have HSZ := Ai.Aside.mk (show (Tryz.prog.info? 55).map (·.size) = some (lcutP k ep gr bs ii).cells.length by rw [pg_len hpl]; exact pgSize)
      have HON := Ai.Aside.mk (pg_one (lcutP k ep gr bs ii))
      obtain ⟨vs, hvs⟩ : ∃ vs, vs = (lcutP k ep gr bs ii).cells := ⟨_, rfl⟩
      have HRG := Ai.Aside.mk (show wr.rangeAt g (j * 39) vs by rw [hvs]; exact HPA.out.2)
      rw [← hvs] at HLN HSZ HON
      have HVS := Ai.Aside.mk hvs
      have HII := Ai.Aside.mk hii
      have HFN := Ai.Aside.mk hfn
      clear hvs hii hfn hpl
      go_upto_region 9 with (first | ((with_reducible refine wpList_load_mid rfl 55 _ rfl g (j * 39) ?_ vs _ HRG.out Tryz.underlying55 ?_ HSZ.out ?_); (kernel_rfl); (rfl)) | ((with_reducible refine wpList_alloc_row rfl 55 rfl _ (alloc55 wr) ?_); intro w4 hrow hbel; have HQ := Ai.Aside.mk hrow; have HBL := Ai.Aside.mk hbel; clear hrow hbel) | ((with_reducible refine wpList_store_row rfl 55 _ _ rfl wr.heap.size vs _ ?_ ?_ HQ.out HLN.out HSZ.out HON.out ?_); (kernel_rfl); (kernel_rfl); intro w5 hrow hmod; have HQ5 := Ai.Aside.mk hrow; have HM5 := Ai.Aside.mk hmod; clear hrow hmod))
      obtain ⟨q, hq⟩ : ∃ q, q = wr.heap.size := ⟨_, rfl⟩
      rw [← hq] at HQ5 HM5
      rw [← hq]
      have HRP5 := Ai.Aside.mk ((HR.out.1.below HBL.out).mod HM5.out (by have := HR.out.1.lt; omega))
      have HPP5 := Ai.Aside.mk (show ∀ i q', f i = some q' → gp < q' ∧ PgAt w5 q' 0 (lcutP k ep gr bs i) from fun i q' h => by
        obtain ⟨h1, h2⟩ := HR.out.2.1 i q' h
        exact ⟨h1, (h2.below HBL.out).mod HM5.out (by have := h2.1; omega)⟩)
      have HB5 := Ai.Aside.mk (HM5.out.below (HR.out.2.2.2.trans (HBL.out.mono HR.out.2.2.2.size)) (Nat.le_trans HR.out.2.2.2.size HBL.out.size) (by have := HR.out.2.2.2.size; omega))
      have HGQ := Ai.Aside.mk (show gp < q by have := HR.out.1.lt; omega)
      have HPQ := Ai.Aside.mk (show PgAt w5 q 0 (lcutP k ep gr bs ii) from ⟨HQ5.out.lt, by have := HQ5.out.range; rw [HVS.out] at this; exact this⟩)
      have HSM := Ai.Aside.mk HR.out.2.2.1
      obtain ⟨-, c1, -, -, -, c5, c6⟩ := HPQ.out.facts
      have c1q : w5.cell? ⟨q, 1, none⟩ = some (.int .u32 n) := by rw [HN.out]; exact c1
      have c5q : w5.cell? ⟨q, 5, none⟩ = some (.int .u32 ii) := c5
      have c6q : w5.cell? ⟨q, 6, none⟩ = some (.int .u32 T) := by rw [← HTV.out]; exact c6
      have hT2 : (T : Int) % 4294967296 = (T : Int) := by omega
      have hd : decide ((T : Int) ≤ (ii : Int)) = false := decide_eq_false (by omega)
      have hpc := HRP5.out.cell (parts_get hiT)
      rw [HFN.out] at hpc
      have hpc2 : w5.cell? ⟨gp, ii, none⟩ = some (.pointer none) := hpc
      have hpf := HRP5.out.fr ii
      have HST := Ai.Aside.mk (show RowV (w5.setCell ⟨gp, ii, none⟩ (.pointer (some ⟨q, 7, none⟩))) gp 169 (partsV T (fun k => if k = ii then some q else f k)) by rw [← parts_set]; exact HRP5.out.set ii _)
      clear c1 c5 c6 hpc HQ HBL HRG HR HQ5 HM5 HON HSZ HLN hq HPA
      go_upto_region 11 with (fail)
      go_quiet ((fail))
      go_wp2_with fail
      go_roundw
      case rel => exact ⟨j + 1, fun k => if k = ii then some q else f k, by omega, by go_num, ⟨HST.out, (fun i q' h => by
          change (if i = ii then some q else f i) = some q' at h
          by_cases hik : i = ii
          · rw [if_pos hik] at h
            cases h
            rw [hik]
            exact ⟨HGQ.out, (show PgAt (w5.drewN nq) q 0 (lcutP k ep gr bs ii) from HPQ.out).mod (mod_set (w5.drewN nq) gp ii _) (by have := HGQ.out; omega)⟩
          · rw [if_neg hik] at h
            obtain ⟨h1, h2⟩ := HPP5.out i q' h
            exact ⟨h1, (show PgAt (w5.drewN nq) q' 0 (lcutP k ep gr bs i) from h2).mod (mod_set (w5.drewN nq) gp ii _) (by omega)⟩), (fun i => by
          rw [List.take_add_one, HII.out, List.mem_append]
          show (if i = ii then some q else f i).isSome = true ↔ _
          by_cases hik : i = ii
          · rw [if_pos hik, hik]; simp
          · rw [if_neg hik, HSM.out i]
            simp [hik]), (mod_set (w5.drewN nq) gp ii _).below (below_drewN HB5.out nq) HB5.out.size (by rw [HGP.out]; exact Nat.le_refl _)⟩⟩
      case measure => simp [intOf]; omega
    · obtain rfl : j = m := by omega
      obtain ⟨wo, hwo⟩ : ∃ wo, wo = wr := ⟨_, rfl⟩
      subst hwo
      have HALL := Ai.Aside.mk (show ∀ i, i < T → ∃ q, f i = some q ∧ PgAt wo q 0 (lcutP k ep gr bs i) from fun i hi => by
        have h1 := (HR.out.2.2.1 i).2 (by rw [← HM.out, List.take_length]; exact (HMEM.out i).2 hi)
        obtain ⟨q, hq⟩ := Option.isSome_iff_exists.1 h1
        exact ⟨q, hq, (HR.out.2.1 i q hq).2⟩)
      have HRP := Ai.Aside.mk HR.out.1
      have HB := Ai.Aside.mk HR.out.2.2.2
      obtain ⟨i5, hi, hz0, hz1, hz2⟩ := info_parts info5
      clear HR
      go_upto_region 17 with (fail)
      go_loopw [9, 75] (fun v9 v75 wr => ∃ (i : Nat), i ≤ T ∧ v75 = .int .i64 i ∧ Ai.Aside (wr.ownsRow wo.heap.size 5 1 v9 (32 * i) (byI ((List.range i).flatMap fun i => (lcutP k ep gr bs i).pay)) ∧ Below wo.heap.size wo wr)) (fun _ v75 _ => T - (intOf v75).toNat)
      case atStart => exact ⟨0, by omega, rfl, ⟨World.ownsRow_nil _ _ _ _, Below.refl _ _⟩⟩
      case round =>
        obtain ⟨i, hiT, rfl, HR⟩ := hrel
        by_cases hlt2 : i < T
        · obtain ⟨q, hfq, hpq⟩ := HALL.out i hlt2
          have hc := (HRP.out.below HR.out.2).cell (parts_get hlt2)
          rw [hfq] at hc
          have hc2 : wr.cell? ⟨gp, i, none⟩ = some (.pointer (some ⟨q, 7, none⟩)) := hc
          have HPQ := Ai.Aside.mk (hpq.below HR.out.2)
          have hpl := (lcut_ok (k := k) (ep := ep) (gr := gr) (i := i) HBY.out).1
          have HPL := Ai.Aside.mk (show (byI (lcutP k ep gr bs i).pay).length = 32 * 1 by rw [by_len, hpl])
          have HSUC := Ai.Aside.mk (show byI ((List.range i).flatMap fun i => (lcutP k ep gr bs i).pay) ++ byI (lcutP k ep gr bs i).pay = byI ((List.range (i + 1)).flatMap fun i => (lcutP k ep gr bs i).pay) by
            rw [List.range_succ, List.flatMap_append]; simp [byI])
          have HSRC := Ai.Aside.mk HPQ.out.pay
          obtain ⟨py, hpy⟩ : ∃ py, py = byI (lcutP k ep gr bs i).pay := ⟨_, rfl⟩
          rw [← hpy] at HPL HSUC HSRC
          have HONE := Ai.Aside.mk (show ∀ u ∈ py, u.oneCell' = true by rw [hpy]; exact by_one _)
          obtain ⟨xs, hxs⟩ : ∃ xs, xs = byI ((List.range i).flatMap fun i => (lcutP k ep gr bs i).pay) := ⟨_, rfl⟩
          rw [← hxs] at HSUC
          have HOX := Ai.Aside.mk (show wr.ownsRow wo.heap.size 5 1 u9 (32 * i) xs by rw [hxs]; exact HR.out.1)
          clear hc hpq hfq hpl hpy hxs
          go_wp2_with (first | (at_builtin; go_loud (refine wpList_append_own _ rfl (.tmp 81) (.tmp 84) 37 rfl wo.heap.size 5 i5 (.int .u8 0) 1 1 Tryz.underlying37 hi hz0 hz1 hz2 rfl (by decide) u9 (32 * i) xs (by kernel_rfl) HOX.out ⟨q, 7, none⟩ 32 32 py (by kernel_rfl) HPL.out (fun j u hj => by have := HSRC.out j u hj; simpa using this) HONE.out (by unfold maxLen; omega) (by omega) HR.out.2.size ?_; intro v' w9 hown9 hgrow9 hnil9; have HO9 := Ai.Aside.mk hown9; have HG9 := Ai.Aside.mk hgrow9; clear hown9 hgrow9 hnil9)))
          go_roundw
          case rel => exact ⟨i + 1, by omega, by go_num, ⟨by rw [← HSUC.out, show 32 * (i + 1) = 32 * i + 32 by omega]; exact HO9.out, HR.out.2.grown HG9.out HR.out.2.size (fun j hj => (HR.out.1.lt j hj).1)⟩⟩
          case measure => simp [intOf]; omega
        · obtain rfl : i = T := by omega
          have hfl := flat_pay k ep gr bs i (by rw [← HN.out]; omega) (by rw [← HN.out]; omega)
          rw [← HN.out] at hfl
          have HOW := HR.out.1
          rw [hfl] at HOW
          obtain ⟨L, hL⟩ : ∃ L, 32 * i = L + 1 := ⟨32 * i - 1, by omega⟩
          rw [hL] at HOW
          obtain ⟨gb, cb, hv⟩ := own_some HOW
          rw [← hL] at hv HOW
          subst hv
          have hcap : 32 * i ≤ cb := by
            rcases HOW.2 with ⟨h1, _⟩ | ⟨g', cap', cur, h1, _, _, h2, _⟩
            · cases h1
            · cases h1; exact h2
          have HCEL := Ai.Aside.mk (show ∀ k, k < 32 * i - n → wr.cell? ⟨gb, n + k, none⟩ = some (.int .u8 0) from fun k hk => by
            rw [HOW.cellAt (n + k) (by omega), byI, List.getElem?_map, List.getElem?_append_right (by rw [← HN.out]; omega), List.getElem?_replicate, if_pos (by rw [← HN.out]; omega)]
            rfl)
          have hbn : byI bs = (byI (bs ++ List.replicate (32 * i - n) 0)).take n := by
            rw [byI, byI, List.map_append, List.take_left' (by rw [List.length_map]; exact HN.out.symm)]
          have HCL := Ai.Aside.mk (clone5_ok wr wo.heap.size n (.slice (some ⟨gb, 0, none⟩) n cb) (byI bs) (by rw [hbn]; exact own_prefix HOW (by omega)) (by omega) (by_one _))
          have HBF := Ai.Aside.mk (HB.out.trans (HR.out.2.mono HB.out.size))
          have hn3 : n ≤ 32 * i := by omega
          have hn4 : (n : Int) ≤ 32 * (i : Int) := by omega
          have hn5 : n ≤ cb := by omega
          have hn6 : (n : Int) ≤ (cb : Int) := by omega
          clear hfl hbn HOW hL HR
          by_cases hcn : n = cb
          · subst hcn
            go_upto_region 24 with (fail)
            have HCB := Ai.Aside.mk hcap
            go_loopw [91] (fun v91 wr3 => ∃ (k : Nat), k ≤ 32 * i - n ∧ v91 = .int .i64 k ∧ wr3 = wr) (fun v91 _ => 32 * i - n - (intOf v91).toNat)
            case atStart => exact ⟨0, by omega, rfl, rfl⟩
            case round =>
              obtain ⟨k, hk, rfl, hwe⟩ := hrel
              subst hwe
              by_cases hlt : k < 32 * i - n
              · first
                | (exfalso; omega)
                | (have hc := HCEL.out k hlt
                   go_wp2_with fail
                   go_roundw
                   case rel => exact ⟨k + 1, by omega, by go_num, trivial⟩
                   case measure => simp [intOf]; omega)
              · obtain hkk : k = 32 * i - n := by omega
                subst hkk
                go_wp2_with (first | (go_at_call 91; go_loud (refine HCL.out.mono ?_; rintro e w6 ⟨v6, rfl, hown, hb6, -⟩; have HO6 := Ai.Aside.mk hown; have HB6 := Ai.Aside.mk hb6; clear hown hb6)))
                go_ret2
                exact ⟨v6, rfl, by rw [← HN.out]; exact own_base HO6.out HBF.out.size, HBF.out.trans (HB6.out.mono HBF.out.size)⟩
          · go_upto_region 24 with (fail)
            have HCB := Ai.Aside.mk hcap
            go_loopw [91] (fun v91 wr3 => ∃ (k : Nat), k ≤ 32 * i - n ∧ v91 = .int .i64 k ∧ wr3 = wr) (fun v91 _ => 32 * i - n - (intOf v91).toNat)
            case atStart => exact ⟨0, by omega, rfl, rfl⟩
            case round =>
              obtain ⟨k, hk, rfl, hwe⟩ := hrel
              subst hwe
              by_cases hlt : k < 32 * i - n
              · first
                | (exfalso; omega)
                | (have hc := HCEL.out k hlt
                   go_wp2_with fail
                   go_roundw
                   case rel => exact ⟨k + 1, by omega, by go_num, trivial⟩
                   case measure => simp [intOf]; omega)
              · obtain hkk : k = 32 * i - n := by omega
                subst hkk
                go_wp2_with (first | (go_at_call 91; go_loud (refine HCL.out.mono ?_; rintro e w6 ⟨v6, rfl, hown, hb6, -⟩; have HO6 := Ai.Aside.mk hown; have HB6 := Ai.Aside.mk hb6; clear hown hb6)))
                go_ret2
                exact ⟨v6, rfl, by rw [← HN.out]; exact own_base HO6.out HBF.out.size, HBF.out.trans (HB6.out.mono HBF.out.size)⟩
end Lo
end Go.Proofs.YtjmhkcfdmcjilaaGreat
/- Walk: leaf.Join of one stream's pages. -/
/- The map of leaf.Join at one key: laws. -/
set_option linter.unusedVariables false
set_option linter.unusedSimpArgs false
namespace Go.Proofs.YtjmhkcfdmcjilaaGreat
namespace Lo
open Go.RowKit Ai Fi

def key9 : Value := .agg #[.int .i64 3, .int .u32 1, .int .u32 9]
theorem key_check (W : World) : (Instr.checkKey false 10000 110 key9).run Tryz.prog W = .ok () W := by kernel_rfl
theorem key_check2 (W : World) : (Instr.checkKey true 10000 110 key9).run Tryz.prog W = .ok () W := by kernel_rfl
theorem key_find0 (W : World) : (Instr.findKey 110 key9 []).run Tryz.prog W = .ok none W := by kernel_rfl
theorem key_find1 (W : World) (v : Value) : (Instr.findKey 110 key9 [⟨key9, v, 0⟩]).run Tryz.prog W = .ok (some (0, v)) W := by kernel_rfl
theorem key_stays (W : World) : (Instr.keyThatStays key9 key9).run Tryz.prog W = .ok key9 W := by kernel_rfl
theorem zero46 (W : World) : (zeroValue 46).run Tryz.prog W = .ok (.slice none 0 0) W := by kernel_rfl

def MapAt (w : World) (b : Nat) (es : Array MapEntry) (clock : Nat) : Prop := w.heap[b]? = some (.map es clock)
def setB (w : World) (b : Nat) (o : Obj) : World := { w with heap := w.heap.setIfInBounds b o }

theorem MapAt.lt {w : World} {b : Nat} {es : Array MapEntry} {c : Nat} (h : MapAt w b es c) : b < w.heap.size := (Array.getElem?_eq_some_iff.1 h).1
theorem MapAt.below {w w' : World} {b : Nat} {es : Array MapEntry} {c : Nat} (h : MapAt w b es c) (hb : Below w.heap.size w w') : MapAt w' b es c := (hb.block b h.lt).trans h
theorem MapAt.mod {w w' : World} {b q : Nat} {es : Array MapEntry} {c : Nat} (h : MapAt w b es c) (hm : Mod w w' q) (hne : b ≠ q) : MapAt w' b es c := (hm.block b h.lt hne).trans h
theorem MapAt.grown {w w' : World} {b : Nat} {row : Option Nat} {es : Array MapEntry} {c : Nat} (h : MapAt w b es c) (hg : w.grownBy w' row) (hne : row ≠ some b) : MapAt w' b es c := (hg.block b h.lt (Ne.symm hne)).trans h
theorem setB_mod (w : World) (b : Nat) (o : Obj) : Mod w (setB w b o) b :=
  ⟨rfl, rfl, rfl, by simp [setB], fun k hk hne => by simp [setB, Array.getElem?_setIfInBounds, Ne.symm hne]⟩
theorem setB_at {w : World} {b : Nat} (h : b < w.heap.size) (es : Array MapEntry) (c : Nat) : MapAt (setB w b (.map es c)) b es c := by
  simp [MapAt, setB, h]
theorem MapAt.ne {w : World} {b : Nat} {es : Array MapEntry} {c base n : Nat} {e : TypeId} {size : Nat} {v : Value} {xs : List Value} (h : MapAt w b es c) (ho : w.ownsRow base e size v n xs) : v.ownBlock ≠ some b := by
  intro hv
  rcases ho.2 with ⟨h1, _⟩ | ⟨g, cap, cur, h1, _, h2, _⟩
  · rw [h1] at hv; cases hv
  · rw [h1] at hv
    cases hv
    have := h.symm.trans h2
    cases this

theorem RowV.grown {w w' : World} {g : Nat} {t : TypeId} {vs : List Value} {row : Option Nat} (h : RowV w g t vs) (hg : w.grownBy w' row) (hne : row ≠ some g) : RowV w' g t vs := (hg.block g h.lt (Ne.symm hne)).trans h
theorem own_other {w : World} {b1 b2 n1 n2 s1 s2 : Nat} {e1 e2 : TypeId} {v1 v2 : Value} {xs ys : List Value} (h1 : w.ownsRow b1 e1 s1 v1 n1 xs) (h2 : w.ownsRow b2 e2 s2 v2 n2 ys) (hne : e1 ≠ e2) : v1.ownBlock = none ∨ v1.ownBlock ≠ v2.ownBlock := by
  rcases h1.2 with ⟨k1, _⟩ | ⟨g, cap, cur, k1, _, k2, _⟩
  · left; rw [k1]; rfl
  · right
    rcases h2.2 with ⟨l1, _⟩ | ⟨g', cap', cur', l1, _, l2, _⟩
    · rw [k1, l1]; simp [Value.ownBlock]
    · rw [k1, l1]
      intro e
      simp [Value.ownBlock] at e
      subst e
      have := k2.symm.trans l2
      simp at this
      exact hne this.2

theorem look0 {W : World} {b : Nat} (h : MapAt W b #[] 0) : (Instr.lookup 107 (.map (some b)) key9 true).run Tryz.prog W = .ok (.tuple #[.slice none 0 0, .bool false]) W := by
  simp [Instr.lookup, run_underlying Tryz.underlying107, MapKept.run_getObj_map h, key_check2, key_find0, zero46, Result.andThen]
theorem look1 {W : World} {b : Nat} {v : Value} (h : MapAt W b #[⟨key9, v, 0⟩] 1) : (Instr.lookup 107 (.map (some b)) key9 true).run Tryz.prog W = .ok (.tuple #[v, .bool true]) W := by
  simp [Instr.lookup, run_underlying Tryz.underlying107, MapKept.run_getObj_map h, key_check, key_find1, Result.andThen]
theorem look1f {W : World} {b : Nat} {v : Value} (h : MapAt W b #[⟨key9, v, 0⟩] 1) : (Instr.lookup 107 (.map (some b)) key9 false).run Tryz.prog W = .ok v W := by
  simp [Instr.lookup, run_underlying Tryz.underlying107, MapKept.run_getObj_map h, key_check, key_find1, Result.andThen]
theorem entry0 {W : World} {b : Nat} (h : MapAt W b #[] 0) : (Instr.mapEntry 107 (.map (some b)) key9).run Tryz.prog W = .ok (.tuple #[.slice none 0 0, .int .i64 0]) (setB W b (.map #[⟨key9, .slice none 0 0, 0⟩] 1)) := by
  simp [Instr.mapEntry, run_underlying Tryz.underlying107, MapKept.run_getObj_map h, key_check, key_find0, zero46, MapKept.run_setObj_map _ h, Result.andThen, goInt, setB]
theorem entry1 {W : World} {b : Nat} {v : Value} (h : MapAt W b #[⟨key9, v, 0⟩] 1) : (Instr.mapEntry 107 (.map (some b)) key9).run Tryz.prog W = .ok (.tuple #[v, .int .i64 0]) (setB W b (.map #[⟨key9, v, 0⟩] 1)) := by
  simp [Instr.mapEntry, run_underlying Tryz.underlying107, MapKept.run_getObj_map h, key_check, key_find1, key_stays, MapKept.run_setObj_map _ h, Result.andThen, goInt, setB]
theorem store1 {W : World} {b : Nat} {u v : Value} (h : MapAt W b #[⟨key9, u, 0⟩] 1) : (Instr.entryStore 107 (.map (some b)) (.int .i64 0) v).run Tryz.prog W = .ok () (setB W b (.map #[⟨key9, v, 0⟩] 1)) := by
  simp [Instr.entryStore, MapKept.run_getObj_map h, asInt, asIntOf, MapKept.run_setObj_map _ h, Result.andThen, setB]

theorem wpList_lookup {P : Program} {w : World} {ops : Array Oper} {rest : List Oper} {o : Oper} {a : Act} {Q : Exit → Act → World → Prop} (hg : o.guard = none) (t : TypeId) (x k : Operand) (ok : Bool) (hop : o.op = Op.lookup t x k ok)
    (vx vk v : Value) (hx : a.eval x = vx) (hk : a.eval k = vk) (hrun : (Instr.lookup t vx vk ok).run P w = .ok v w)
    (hK : wpList P ops Q rest (a.put o.dst v) w) : wpList P ops Q (o :: rest) a w := by
  refine wpList_plain hg fun K hK' => ?_
  unfold Oper.wp
  simp [execOp, hop, hx, hk, hrun, Result.andThen]
  exact hK' _ _ hK
theorem wpList_entry {P : Program} {w w1 : World} {ops : Array Oper} {rest : List Oper} {o : Oper} {a : Act} {Q : Exit → Act → World → Prop} (hg : o.guard = none) (t : TypeId) (x k : Operand) (hop : o.op = Op.mapEntry t x k)
    (vx vk v : Value) (hx : a.eval x = vx) (hk : a.eval k = vk) (hrun : (Instr.mapEntry t vx vk).run P w = .ok v w1)
    (hK : wpList P ops Q rest (a.put o.dst v) w1) : wpList P ops Q (o :: rest) a w := by
  refine wpList_plain hg fun K hK' => ?_
  unfold Oper.wp
  simp [execOp, hop, hx, hk, hrun, Result.andThen]
  exact hK' _ _ hK
theorem wpList_estore {P : Program} {w w1 : World} {ops : Array Oper} {rest : List Oper} {o : Oper} {a : Act} {Q : Exit → Act → World → Prop} (hg : o.guard = none) (t : TypeId) (x s y : Operand) (hop : o.op = Op.entryStore t x s y)
    (vx vs vy : Value) (hx : a.eval x = vx) (hs : a.eval s = vs) (hy : a.eval y = vy) (hrun : (Instr.entryStore t vx vs vy).run P w = .ok () w1)
    (hK : wpList P ops Q rest (a.put o.dst undef) w1) : wpList P ops Q (o :: rest) a w := by
  refine wpList_plain hg fun K hK' => ?_
  unfold Oper.wp
  simp [execOp, hop, hx, hs, hy, hrun, Result.andThen]
  exact hK' _ _ hK

theorem wpList_entryB {P : Program} {w : World} {ops : Array Oper} {rest : List Oper} {o : Oper} {a : Act} {Q : Exit → Act → World → Prop} (hg : o.guard = none) (t : TypeId) (x k : Operand) (hop : o.op = Op.mapEntry t x k)
    (vx vk v : Value) (b : Nat) (es : Array MapEntry) (c : Nat) (hx : a.eval x = vx) (hk : a.eval k = vk) (hb : b < w.heap.size) (hrun : (Instr.mapEntry t vx vk).run P w = .ok v (setB w b (.map es c)))
    (hK : ∀ w1, MapAt w1 b es c → Mod w w1 b → wpList P ops Q rest (a.put o.dst v) w1) : wpList P ops Q (o :: rest) a w :=
  wpList_entry hg t x k hop vx vk v hx hk hrun (hK _ (setB_at hb es c) (setB_mod w b _))
theorem wpList_estoreB {P : Program} {w : World} {ops : Array Oper} {rest : List Oper} {o : Oper} {a : Act} {Q : Exit → Act → World → Prop} (hg : o.guard = none) (t : TypeId) (x s y : Operand) (hop : o.op = Op.entryStore t x s y)
    (vx vs vy : Value) (b : Nat) (es : Array MapEntry) (c : Nat) (hx : a.eval x = vx) (hs : a.eval s = vs) (hy : a.eval y = vy) (hb : b < w.heap.size) (hrun : (Instr.entryStore t vx vs vy).run P w = .ok () (setB w b (.map es c)))
    (hK : ∀ w1, MapAt w1 b es c → Mod w w1 b → wpList P ops Q rest (a.put o.dst undef) w1) : wpList P ops Q (o :: rest) a w :=
  wpList_estore hg t x s y hop vx vs vy hx hs hy hrun (hK _ (setB_at hb es c) (setB_mod w b _))
end Lo
end Go.Proofs.YtjmhkcfdmcjilaaGreat
set_option linter.unusedVariables false
set_option linter.unusedSimpArgs false
namespace Go.Proofs.YtjmhkcfdmcjilaaGreat
namespace Lo
open Go.RowKit Ai Fi

theorem info110 : (Tryz.prog.info? 110).map (fun i => (i.zero, i.size, i.bytes)) = some (some (.agg #[.int .i64 0, .int .u32 0, .int .u32 0]), 3, 16) := by kernel_rfl
theorem info51 : (Tryz.prog.info? 51).map (fun i => (i.zero, i.size, i.bytes)) = some (some (.agg #[.int .i64 0, .int .u32 0, .int .u32 0, .slice none 0 0]), 4, 40) := by kernel_rfl

def key3 : List Value := [.int .i64 3, .int .u32 1, .int .u32 9]

/-- What stands when so many pages are laid. -/
def JSt (w wr : World) (b : Nat) (ps : List Pg) (j : Nat) (v4 : Value) : Prop :=
  Below w.heap.size w wr ∧ ((j = 0 ∧ v4 = .slice none 0 0 ∧ MapAt wr b #[] 0) ∨
    (0 < j ∧ ∃ v, MapAt wr b #[⟨key9, v, 0⟩] 1 ∧ wr.ownsRow (b + 1) 55 39 v j (pgsV (ps.take j)) ∧ wr.ownsRow (b + 1) 110 3 v4 1 key3))

/-- A stream's cells. -/
def RowV4 (w : World) (g : Nat) (v : Value) : Prop := g < w.heap.size ∧ w.cell? ⟨g, 0, none⟩ = some (.int .i64 3) ∧ w.cell? ⟨g, 1, none⟩ = some (.int .u32 1) ∧ w.cell? ⟨g, 2, none⟩ = some (.int .u32 9) ∧ w.cell? ⟨g, 3, none⟩ = some v

def LJoinPost (w : World) (bs : List Int) (e : Ending) (w' : World) : Prop := ∃ gs cs v, e = .returned (.slice (some ⟨gs, 0, none⟩) 1 cs) ∧
  RowV4 w' gs v ∧ w.heap.size ≤ gs ∧ w'.ownsRow w.heap.size 5 1 v bs.length (byI bs) ∧ Below w.heap.size w w'

theorem list_new (w : World) (l : List Value) (e : TypeId) : ∀ (j : Nat) (u : Value), l[j]? = some u → (w.alloc (.cells l.toArray e)).cell? ((⟨w.heap.size, 0, none⟩ : Addr).add j) = some u := fun j u hj => by
  rw [add_addr, Nat.zero_add]
  exact (RowV.new w l e).cell hj

theorem one4 {w : World} {base n : Nat} {e : TypeId} {size : Nat} {v : Value} {xs : List Value} (h : w.ownsRow base e size v n xs) : ∀ u ∈ [Value.int .i64 3, .int .u32 1, .int .u32 9, v], u.oneCell' = true := by
  intro u hu
  simp only [List.mem_cons, List.not_mem_nil, or_false] at hu
  rcases hu with rfl | rfl | rfl | rfl
  · rfl
  · rfl
  · rfl
  · rcases h.2 with ⟨h1, _⟩ | ⟨g, cap, cur, h1, _⟩ <;> rw [h1] <;> rfl
set_option maxHeartbeats 4000000 in
set_option maxRecDepth 100000 in
theorem join18_ok (w : World) (bs : List Int) (is : List Nat) (g m cap T : Nat) (hT : pagesV (bs.length : Int) = T) (hn1 : 1 ≤ bs.length) (hn2 : bs.length ≤ 65536) (hby : ∀ x ∈ bs, 0 ≤ x ∧ x ≤ 255)
    (hnd : is.Nodup) (hmem : ∀ i, i ∈ is ↔ i < T) (hm : is.length = m) (hmT : m ≤ 2048) (hP : PgsAt w g (is.map (lcutP 3 1 9 bs))) :
    Calls Tryz.prog 18 #[.slice (some ⟨g, 0, none⟩) m cap] w (LJoinPost w bs) := by
  have HP := Ai.Aside.mk hP
  have HBY := Ai.Aside.mk hby
  have HM := Ai.Aside.mk hm
  have hTb : (bs.length : Int) ≤ 32 * T ∧ 1 ≤ T := by
    have h2 := hT
    unfold pagesV at h2
    split at h2 <;> (try split at h2) <;> omega
  have hm1 : 0 < m := by
    rw [← hm]
    exact List.length_pos_iff.2 (fun e => by have := (hmem 0).2 (by omega); rw [e] at this; cases this)
  have HWH := Ai.Aside.mk (fun (W : World) (gl c : Nat) (hp : PgsAt W gl (is.map (lcutP 3 1 9 bs))) => whole58_ok W 3 1 9 bs is gl m c T hT hn1 hn2 hby hnd hmem hm hmT hp)
  have hgl : g < w.heap.size := by
    obtain ⟨i1, h1⟩ : ∃ i1, is[0]? = some i1 := ⟨_, List.getElem?_eq_getElem (by rw [hm]; exact hm1)⟩
    exact (hP 0 (lcutP 3 1 9 bs i1) (by rw [List.getElem?_map, h1]; rfl)).1
  obtain ⟨i0, hi, hz0, hz1, hz2⟩ := info_parts info55
  have HI := Ai.Aside.mk (And.intro hi (And.intro hz0 (And.intro hz1 hz2)))
  clear hi hz0 hz1 hz2
  obtain ⟨i1, hi, hz0, hz1, hz2⟩ := info_parts info110
  have HI1 := Ai.Aside.mk (And.intro hi (And.intro hz0 (And.intro hz1 hz2)))
  clear hi hz0 hz1 hz2
  obtain ⟨i2, hi, hz0, hz1, hz2⟩ := info_parts info51
  have HI2 := Ai.Aside.mk (And.intro hi (And.intro hz0 (And.intro hz1 hz2)))
  clear hi hz0 hz1 hz2
  obtain ⟨n, hn⟩ : ∃ n, n = bs.length := ⟨_, rfl⟩
  have HN := Ai.Aside.mk hn
  obtain ⟨L, hL⟩ : ∃ L, bs.length = L + 1 := ⟨bs.length - 1, by omega⟩
  have HLL := Ai.Aside.mk hL
  clear hL
  have hmm := @run_makeMap Tryz.prog
  clear hP hT hn1 hn2 hby hnd hmem hm hTb hn
  go_enter Tryz.func18, Tryz.ntmps18
  go_upto_region 4 with (fail)
  have HS0 := Ai.Aside.mk (show JSt w (w.alloc (.map #[] 0)) w.heap.size (is.map (lcutP 3 1 9 bs)) 0 (.slice none 0 0) from ⟨(Below.refl w.heap.size w).alloc (Nat.le_refl _) _, .inl ⟨rfl, rfl, heap_alloc_new w _⟩⟩)
  obtain ⟨b, hb⟩ : ∃ b, b = w.heap.size := ⟨_, rfl⟩
  rw [← hb] at HS0 ⊢
  have HBW := Ai.Aside.mk hb
  have hgb : g < b := by omega
  clear hb
  generalize World.alloc w _ = w1 at HS0 ⊢
  go_loopw [4, 18] (fun v4 v18 wr => ∃ (j : Nat), j ≤ m ∧ v18 = .int .i64 j ∧ Ai.Aside (JSt w wr b (is.map (lcutP 3 1 9 bs)) j v4)) (fun _ v18 _ => m - (intOf v18).toNat)
  case atStart => exact ⟨0, by omega, rfl, HS0⟩
  case round =>
    obtain ⟨j, hj, rfl, HR⟩ := hrel
    clear HS0
    by_cases hlt : j < m
    · obtain ⟨ii, hii⟩ : ∃ ii, is[j]? = some ii := ⟨_, List.getElem?_eq_getElem (by rw [HM.out]; exact hlt)⟩
      have hpp : (is.map (lcutP 3 1 9 bs))[j]? = some (lcutP 3 1 9 bs ii) := by rw [List.getElem?_map, hii]; rfl
      have HPA := Ai.Aside.mk ((HP.out j (lcutP 3 1 9 bs ii) hpp).below HR.out.1)
      have hpl := (lcut_ok (k := 3) (ep := 1) (gr := 9) (i := ii) HBY.out).1
      have HLN := Ai.Aside.mk (show Pg.zero.cells.length = (lcutP 3 1 9 bs ii).cells.length by rw [pg_len hpl]; rfl)
      have HSZ := Ai.Aside.mk (show (Tryz.prog.info? 55).map (·.size) = some (lcutP 3 1 9 bs ii).cells.length by rw [pg_len hpl]; exact pgSize)
      have HON := Ai.Aside.mk (pg_one (lcutP 3 1 9 bs ii))
      have HL39 := Ai.Aside.mk (pg_len hpl)
      have HTAKE := Ai.Aside.mk (show pgsV ((is.map (lcutP 3 1 9 bs)).take (j + 1)) = pgsV ((is.map (lcutP 3 1 9 bs)).take j) ++ (lcutP 3 1 9 bs ii).cells by rw [List.take_add_one, hpp]; exact pgsV_snoc _ _)
      obtain ⟨vs, hvs⟩ : ∃ vs, vs = (lcutP 3 1 9 bs ii).cells := ⟨_, rfl⟩
      have HRG := Ai.Aside.mk (show wr.rangeAt g (j * 39) vs by rw [hvs]; exact HPA.out.2)
      have HV0 := Ai.Aside.mk (show vs[0]? = some (.int .i64 3) ∧ vs[3]? = some (.int .u32 1) ∧ vs[4]? = some (.int .u32 9) by rw [hvs]; exact ⟨rfl, rfl, rfl⟩)
      rw [← hvs] at HLN HSZ HON HL39 HTAKE
      clear hvs hii hpp hpl HPA
      go_upto_region 6 with (first | ((with_reducible refine wpList_load_mid rfl 55 _ rfl g (j * 39) ?_ vs _ HRG.out Tryz.underlying55 ?_ HSZ.out ?_); (kernel_rfl); (rfl)) | ((with_reducible refine wpList_alloc_row rfl 55 rfl _ (alloc55 wr) ?_); intro w4 hrow hbel; have HQ := Ai.Aside.mk hrow; have HBL := Ai.Aside.mk hbel; clear hrow hbel) | ((with_reducible refine wpList_store_row rfl 55 _ _ rfl wr.heap.size vs _ ?_ ?_ HQ.out HLN.out HSZ.out HON.out ?_); (kernel_rfl); (kernel_rfl); intro w5 hrow hmod; have HQ5 := Ai.Aside.mk hrow; have HM5 := Ai.Aside.mk hmod; clear hrow hmod))
      obtain ⟨q, hq⟩ : ∃ q, q = wr.heap.size := ⟨_, rfl⟩
      rw [← hq] at HQ5 HM5
      rw [← hq]
      have hbq : b < q := by
        rw [hq]
        rcases HR.out.2 with ⟨_, _, h3⟩ | ⟨_, v, h3, _⟩
        · exact h3.lt
        · exact h3.lt
      have hqb : b ≠ q := by omega
      have HS5 := Ai.Aside.mk (show JSt w w5 b (is.map (lcutP 3 1 9 bs)) j u4 from ⟨HM5.out.below (HR.out.1.trans (HBL.out.mono HR.out.1.size)) (Nat.le_trans HR.out.1.size HBL.out.size) (by have := HBW.out; omega), by
        rcases HR.out.2 with ⟨h1, h2, h3⟩ | ⟨h1, v, h3, h4, h5⟩
        · exact .inl ⟨h1, h2, (h3.below HBL.out).mod HM5.out hqb⟩
        · exact .inr ⟨h1, v, (h3.below HBL.out).mod HM5.out hqb, own_mod (own_below h4 HBL.out) HM5.out (fun e => by have := (h4.lt q e).2; omega), own_mod (own_below h5 HBL.out) HM5.out (fun e => by have := (h5.lt q e).2; omega)⟩⟩)
      have c0 := HQ5.out.cell HV0.out.1
      have c3 := HQ5.out.cell HV0.out.2.1
      have c4 := HQ5.out.cell HV0.out.2.2
      have HQN := Ai.Aside.mk (And.intro hbq (show q < w5.heap.size from HQ5.out.lt))
      clear HQ HBL HRG HR HM5 HLN hq hbq hqb
      go_upto_region 8 with (fail)
      have HBL6 := (Below.refl w5.heap.size w5).alloc (Nat.le_refl _) (.cells #[.int .i64 3, .int .u32 1, .int .u32 9] 110)
      have HK6 := Ai.Aside.mk (show RowV (w5.alloc (.cells #[.int .i64 3, .int .u32 1, .int .u32 9] 110)) w5.heap.size 110 key3 from RowV.new w5 key3 110)
      have HQ6 := Ai.Aside.mk (HQ5.out.below HBL6)
      have HS6 := Ai.Aside.mk (show JSt w (w5.alloc (.cells #[.int .i64 3, .int .u32 1, .int .u32 9] 110)) b (is.map (lcutP 3 1 9 bs)) j u4 from ⟨HS5.out.1.trans (HBL6.mono HS5.out.1.size), by
        rcases HS5.out.2 with ⟨h1, h2, h3⟩ | ⟨h1, v, h3, h4, h5⟩
        · exact .inl ⟨h1, h2, h3.below HBL6⟩
        · exact .inr ⟨h1, v, h3.below HBL6, own_below h4 HBL6, own_below h5 HBL6⟩⟩)
      clear HS5 HQ5 HBL6 c0 c3 c4
      obtain ⟨kk, hkk⟩ : ∃ kk, kk = w5.heap.size := ⟨_, rfl⟩
      rw [← hkk] at HK6
      rw [← hkk]
      clear hkk
      generalize World.alloc w5 _ = w6 at HK6 HQ6 HS6 ⊢
      have d0 := HK6.out.cell (i := 0) rfl
      have d1 := HK6.out.cell (i := 1) rfl
      have d2 := HK6.out.cell (i := 2) rfl
      rcases HS6.out.2 with ⟨hj0, hv4, hmp⟩ | ⟨hj0, v, hmp, hov, hok⟩
      · subst hj0
        subst hv4
        have HMP6 := Ai.Aside.mk hmp
        have HB6 := Ai.Aside.mk HS6.out.1
        clear hmp HS6
        go_upto_region 11 with (first | ((with_reducible refine wpList_lookup rfl 107 _ _ _ rfl (.map (some b)) key9 (.tuple #[.slice none 0 0, .bool false]) ?_ ?_ (look0 HMP6.out) ?_); (kernel_rfl); (kernel_rfl)) | (at_builtin; go_loud (refine wpList_append_own _ rfl (.tmp 45) (.tmp 47) 108 rfl (b + 1) 110 i1 _ 3 16 Tryz.underlying108 HI1.out.1 HI1.out.2.1 HI1.out.2.2.1 HI1.out.2.2.2 rfl (by decide) (.slice none 0 0) 0 [] (by kernel_rfl) (World.ownsRow_nil _ _ _ _) ⟨w6.heap.size, 0, none⟩ 1 1 key3 (by kernel_rfl) rfl three_new (by simp [key3, Value.oneCell']) (by unfold maxLen; omega) (by omega) (by have h1 := HMP6.out.lt; simp; omega) ?_; intro v7 w8 hown8 hgrow8 hnil8; have HO8 := Ai.Aside.mk hown8; have HG8 := Ai.Aside.mk hgrow8; clear hown8 hgrow8 hnil8)))
        have hk6 : kk < w6.heap.size := HK6.out.lt
        have hq6 : q < w6.heap.size := HQ6.out.lt
        have hal := (Below.refl w6.heap.size w6).alloc (Nat.le_refl _) (.cells #[.int .i64 3, .int .u32 1, .int .u32 9] 110)
        have HQ8 := Ai.Aside.mk ((HQ6.out.below hal).grown HG8.out (by simp [Value.ownBlock]))
        have HK8 := Ai.Aside.mk ((HK6.out.below hal).grown HG8.out (by simp [Value.ownBlock]))
        have HMP8 := Ai.Aside.mk ((HMP6.out.below hal).grown HG8.out (by simp [Value.ownBlock]))
        have HB8 := Ai.Aside.mk ((HB6.out.trans (hal.mono HB6.out.size)).grown HG8.out (Nat.le_trans HB6.out.size hal.size) (fun k hk => by simp [Value.ownBlock] at hk))
        clear d0 d1 d2 hk6 hq6 hal HQ6 HK6 HMP6 HB6 HG8
        have d0 := HK8.out.cell (i := 0) rfl
        have d1 := HK8.out.cell (i := 1) rfl
        have d2 := HK8.out.cell (i := 2) rfl
        go_wp2_with (first | ((with_reducible refine wpList_load_mid rfl 55 _ rfl q 0 ?_ vs _ HQ8.out.range Tryz.underlying55 ?_ HSZ.out ?_); (kernel_rfl); (rfl)) | ((with_reducible refine wpList_buildSlice_one rfl 46 _ rfl 55 i0 _ vs Tryz.underlying46 HI.out.1 HI.out.2.1 ?_ ?_ ?_ ?_ ?_); (rw [HI.out.2.2.1, HL39.out]); (rw [HL39.out]; decide); (rw [HL39.out]; decide); (kernel_rfl); intro w9 hrow hbel; have HR9 := Ai.Aside.mk hrow; have HB9 := Ai.Aside.mk hbel; clear hrow hbel) | ((with_reducible refine wpList_entryB rfl 107 _ _ rfl (.map (some b)) key9 _ b #[⟨key9, .slice none 0 0, 0⟩] 1 ?_ ?_ (HMP8.out.below HB9.out).lt (entry0 (HMP8.out.below HB9.out)) ?_); (kernel_rfl); (kernel_rfl); intro w10 hmp hm; have HMP10 := Ai.Aside.mk hmp; have HM10 := Ai.Aside.mk hm; clear hmp hm) | (at_builtin; go_loud (refine wpList_append_own _ rfl (.tmp 51) (.tmp 53) 46 rfl (b + 1) 55 i0 (.agg Pg.zero.cells.toArray) 39 64 Tryz.underlying46 HI.out.1 HI.out.2.1 HI.out.2.2.1 HI.out.2.2.2 rfl (by decide) (.slice none 0 0) 0 [] (by kernel_rfl) (World.ownsRow_nil _ _ _ _) ⟨w8.heap.size, 0, none⟩ 1 1 vs (by kernel_rfl) (by rw [HL39.out]) (fun jj u hj => by rw [add_addr, Nat.zero_add]; exact (HR9.out.mod HM10.out (by have h1 := HMP8.out.lt; omega)).cell hj) HON.out (by unfold maxLen; omega) (by omega) (by have h1 := HMP10.out.lt; omega) ?_; intro v' w11 hown11 hgrow11 hnil11; have HO11 := Ai.Aside.mk hown11; have HG11 := Ai.Aside.mk hgrow11; have HMP11 := Ai.Aside.mk (HMP10.out.grown hgrow11 (by simp [Value.ownBlock])); clear hown11 hgrow11 hnil11)) | ((with_reducible refine wpList_estoreB rfl 107 _ _ _ rfl (.map (some b)) (.int .i64 0) v' b #[⟨key9, v', 0⟩] 1 ?_ ?_ ?_ HMP11.out.lt (store1 HMP11.out) ?_); (kernel_rfl); (kernel_rfl); (kernel_rfl); intro w12 hmp hm; have HMP12 := Ai.Aside.mk hmp; have HM12 := Ai.Aside.mk hm; clear hmp hm))
        have k9 := own_below HO8.out HB9.out
        have m9 := HMP8.out.below HB9.out
        have k10 := own_mod k9 HM10.out (m9.ne k9)
        have k11 := k10.kept HG11.out (own_other k10 (World.ownsRow_nil w10 (b + 1) 55 39) (by decide))
        have k12 := own_mod k11 HM12.out (HMP11.out.ne k11)
        have p12 := own_mod HO11.out HM12.out (HMP11.out.ne HO11.out)
        have b9 := HB8.out.trans (HB9.out.mono HB8.out.size)
        have b10 := HM10.out.below b9 b9.size (show w.heap.size ≤ b by rw [HBW.out]; exact Nat.le_refl _)
        have b11 := b10.grown HG11.out b10.size (fun k hk => by have h1 := ((World.ownsRow_nil w10 (b + 1) 55 39)).lt k hk; have h2 := HBW.out; omega)
        have b12 := HM12.out.below b11 b11.size (show w.heap.size ≤ b by rw [HBW.out]; exact Nat.le_refl _)
        go_roundw
        case rel => exact ⟨1, by omega, by go_num, ⟨⟨b12, .inr ⟨by omega, v', HMP12.out, by have h := p12; rw [HTAKE.out]; simpa [pgsV] using h, k12⟩⟩⟩⟩
        case measure => simp [intOf]; omega
      · have HMP8 := Ai.Aside.mk hmp
        have HV8 := Ai.Aside.mk hov
        have HK4 := Ai.Aside.mk hok
        have HB8 := Ai.Aside.mk HS6.out.1
        clear hmp HS6 hov hok
        go_upto_region 11 with (first | ((with_reducible refine wpList_lookup rfl 107 _ _ _ rfl (.map (some b)) key9 (.tuple #[v, .bool true]) ?_ ?_ (look1 HMP8.out) ?_); (kernel_rfl); (kernel_rfl)))
        go_wp2_with (first | ((with_reducible refine wpList_load_mid rfl 55 _ rfl q 0 ?_ vs _ HQ6.out.range Tryz.underlying55 ?_ HSZ.out ?_); (kernel_rfl); (rfl)) | ((with_reducible refine wpList_buildSlice_one rfl 46 _ rfl 55 i0 _ vs Tryz.underlying46 HI.out.1 HI.out.2.1 ?_ ?_ ?_ ?_ ?_); (rw [HI.out.2.2.1, HL39.out]); (rw [HL39.out]; decide); (rw [HL39.out]; decide); (kernel_rfl); intro w9 hrow hbel; have HR9 := Ai.Aside.mk hrow; have HB9 := Ai.Aside.mk hbel; clear hrow hbel) | ((with_reducible refine wpList_entryB rfl 107 _ _ rfl (.map (some b)) key9 _ b #[⟨key9, v, 0⟩] 1 ?_ ?_ (HMP8.out.below HB9.out).lt (entry1 (HMP8.out.below HB9.out)) ?_); (kernel_rfl); (kernel_rfl); intro w10 hmp hm; have HMP10 := Ai.Aside.mk hmp; have HM10 := Ai.Aside.mk hm; have HV10 := Ai.Aside.mk (own_mod (own_below HV8.out HB9.out) hm (fun e => (HMP8.out.ne HV8.out) e)); clear hmp hm) | (at_builtin; go_loud (refine wpList_append_own _ rfl (.tmp 51) (.tmp 53) 46 rfl (b + 1) 55 i0 (.agg Pg.zero.cells.toArray) 39 64 Tryz.underlying46 HI.out.1 HI.out.2.1 HI.out.2.2.1 HI.out.2.2.2 rfl (by decide) (v) j (pgsV ((is.map (lcutP 3 1 9 bs)).take j)) (by kernel_rfl) HV10.out ⟨w6.heap.size, 0, none⟩ 1 1 vs (by kernel_rfl) (by rw [HL39.out]) (fun jj u hj => by rw [add_addr, Nat.zero_add]; exact (HR9.out.mod HM10.out (by have h1 := HMP8.out.lt; omega)).cell hj) HON.out (by unfold maxLen; omega) (by omega) (by have h1 := HMP10.out.lt; omega) ?_; intro v' w11 hown11 hgrow11 hnil11; have HO11 := Ai.Aside.mk hown11; have HG11 := Ai.Aside.mk hgrow11; have HMP11 := Ai.Aside.mk (HMP10.out.grown hgrow11 (HMP10.out.ne HV10.out)); clear hown11 hgrow11 hnil11)) | ((with_reducible refine wpList_estoreB rfl 107 _ _ _ rfl (.map (some b)) (.int .i64 0) v' b #[⟨key9, v', 0⟩] 1 ?_ ?_ ?_ HMP11.out.lt (store1 HMP11.out) ?_); (kernel_rfl); (kernel_rfl); (kernel_rfl); intro w12 hmp hm; have HMP12 := Ai.Aside.mk hmp; have HM12 := Ai.Aside.mk hm; clear hmp hm))
        have k9 := own_below HK4.out HB9.out
        have m9 := HMP8.out.below HB9.out
        have k10 := own_mod k9 HM10.out (m9.ne k9)
        have k11 := k10.kept HG11.out (own_other k10 HV10.out (by decide))
        have k12 := own_mod k11 HM12.out (HMP11.out.ne k11)
        have p12 := own_mod HO11.out HM12.out (HMP11.out.ne HO11.out)
        have b9 := HB8.out.trans (HB9.out.mono HB8.out.size)
        have b10 := HM10.out.below b9 b9.size (show w.heap.size ≤ b by rw [HBW.out]; exact Nat.le_refl _)
        have b11 := b10.grown HG11.out b10.size (fun k hk => by have h1 := (HV10.out).lt k hk; have h2 := HBW.out; omega)
        have b12 := HM12.out.below b11 b11.size (show w.heap.size ≤ b by rw [HBW.out]; exact Nat.le_refl _)
        go_roundw
        case rel => exact ⟨j + 1, by omega, by go_num, ⟨⟨b12, .inr ⟨by omega, v', HMP12.out, by have h := p12; rw [HTAKE.out]; simpa [pgsV] using h, k12⟩⟩⟩⟩
        case measure => simp [intOf]; omega
    · obtain rfl : j = m := by omega
      rcases HR.out.2 with ⟨hj0, _, _⟩ | ⟨hj0, v, hmp, hov, hok⟩
      · omega
      · have HMP := Ai.Aside.mk hmp
        have HB := Ai.Aside.mk HR.out.1
        have HV := Ai.Aside.mk hov
        have HK := Ai.Aside.mk hok
        obtain ⟨j', rfl⟩ : ∃ j', j = j' + 1 := ⟨j - 1, by omega⟩
        obtain ⟨gk, ck, rfl⟩ : ∃ gk ck, u4 = .slice (some ⟨gk, 0, none⟩) 1 ck := own_some (m := 0) HK.out
        obtain ⟨gv, cv, rfl⟩ := own_some HV.out
        have HPS := Ai.Aside.mk (PgsAt.of_own HV.out (fun p hp => by
          have h1 := List.mem_of_mem_take hp
          obtain ⟨i, -, rfl⟩ := List.mem_map.1 h1
          exact (lcut_ok HBY.out).1))
        have HPT := Ai.Aside.mk (show (is.map (lcutP 3 1 9 bs)).take (j' + 1) = is.map (lcutP 3 1 9 bs) from List.take_of_length_le (by rw [List.length_map, HM.out]; exact Nat.le_refl _))
        have HSORT := Ai.Aside.mk (fun W => sort1_ok W (some ⟨gk, 0, none⟩) ck (.func (.func 54) #[] #[]))
        have k0 := HK.out.cellAt 0 (by omega)
        have k1 := HK.out.cellAt 1 (by omega)
        have k2 := HK.out.cellAt 2 (by omega)
        simp only [key3, List.getElem?_cons_zero, List.getElem?_cons_succ] at k0 k1 k2
        have hgk : gk < wr.heap.size := (HK.out.lt gk rfl).2
        clear hmp hov hok HR
        go_upto_region 16 with (first | (go_at_call 53; go_loud (refine (HSORT.out _).mono ?_; rintro e w2 ⟨rfl, hw⟩; have hw2 := hw.symm; clear hw; subst hw2)))
        obtain ⟨wo, hwo⟩ : ∃ wo, wo = wr := ⟨_, rfl⟩
        subst hwo
        go_loopw [10, 62] (fun v10 v62 wr2 => (v62 = .int .i64 0 ∧ v10 = .slice none 0 0 ∧ wr2 = wo) ∨ (v62 = .int .i64 1 ∧ Ai.Aside (∃ gs cs v, v10 = .slice (some ⟨gs, 0, none⟩) 1 cs ∧ RowV4 wr2 gs v ∧ w.heap.size ≤ gs ∧ wr2.ownsRow w.heap.size 5 1 v bs.length (byI bs) ∧ Below w.heap.size w wr2))) (fun _ v62 _ => 1 - (intOf v62).toNat)
        case atStart => exact .inl ⟨rfl, rfl, rfl⟩
        case round =>
          rcases hrel with ⟨rfl, rfl, hwe⟩ | ⟨rfl, HF⟩
          · subst hwe
            have hal := (Below.refl wr.heap.size wr).alloc (Nat.le_refl _) (.cells #[.int .i64 3, .int .u32 1, .int .u32 9] 110)
            have HMP2 := Ai.Aside.mk (HMP.out.below hal)
            have HPS2 := Ai.Aside.mk (HPS.out.below hal)
            have HAL := Ai.Aside.mk hal
            rw [HPT.out] at HPS2
            have HCW := Ai.Aside.mk (HWH.out _ gv cv HPS2.out)
            clear hal
            go_upto_region 18 with (fail)
            have HK2 := Ai.Aside.mk (show RowV (wr.alloc (.cells #[.int .i64 3, .int .u32 1, .int .u32 9] 110)) wr.heap.size 110 key3 from RowV.new wr key3 110)
            obtain ⟨kk, hkk⟩ : ∃ kk, kk = wr.heap.size := ⟨_, rfl⟩
            rw [← hkk] at HK2
            rw [← hkk]
            clear hkk k0 k1 k2
            have d0 := HK2.out.cell (i := 0) rfl
            have d1 := HK2.out.cell (i := 1) rfl
            have d2 := HK2.out.cell (i := 2) rfl
            generalize World.alloc wr _ = w3 at HK2 HMP2 HPS2 HAL HCW d0 d1 d2 ⊢
            go_upto_region 19 with (first | ((with_reducible refine wpList_lookup rfl 107 _ _ _ rfl (.map (some b)) key9 (.slice (some ⟨gv, 0, none⟩) (j' + 1) cv) ?_ ?_ (look1f HMP2.out) ?_); (kernel_rfl); (kernel_rfl)) | (go_at_call 58; go_loud (refine HCW.out.mono ?_; rintro e w4 ⟨v4, rfl, hown, hb4⟩; have ho4 := hown; rw [HLL.out] at ho4; obtain ⟨g4, c4, rfl⟩ := own_some ho4; clear ho4; have HO4 := Ai.Aside.mk hown; have HB4 := Ai.Aside.mk hb4; clear hown hb4)))
            have HK4 := Ai.Aside.mk (HK2.out.below HB4.out)
            clear d0 d1 d2
            have d0 := HK4.out.cell (i := 0) rfl
            have d1 := HK4.out.cell (i := 1) rfl
            have d2 := HK4.out.cell (i := 2) rfl
            go_wp2_with (first | (at_builtin; go_loud (refine wpList_append_own _ rfl (.tmp 74) (.tmp 83) 58 rfl w4.heap.size 51 i2 _ 4 40 Tryz.underlying58 HI2.out.1 HI2.out.2.1 HI2.out.2.2.1 HI2.out.2.2.2 rfl (by decide) (.slice none 0 0) 0 [] (by kernel_rfl) (World.ownsRow_nil _ _ _ _) ⟨w4.heap.size, 0, none⟩ 1 1 [.int .i64 3, .int .u32 1, .int .u32 9, (.slice (some ⟨g4, 0, none⟩) (L + 1) c4)] (by kernel_rfl) rfl (list_new w4 [.int .i64 3, .int .u32 1, .int .u32 9, (.slice (some ⟨g4, 0, none⟩) (L + 1) c4)] 51) (one4 HO4.out) (by unfold maxLen; omega) (by omega) (by simp) ?_; intro v8 w8 hown8 hgrow8 hnil8; have HO8 := Ai.Aside.mk hown8; have HG8 := Ai.Aside.mk hgrow8; clear hown8 hgrow8 hnil8)))
            go_roundw
            case rel =>
              refine .inr ⟨rfl, ⟨?_⟩⟩
              obtain ⟨gs, cs, hv8⟩ := own_some (m := 0) HO8.out
              have hal := (Below.refl w4.heap.size w4).alloc (Nat.le_refl _) (.cells #[.int .i64 3, .int .u32 1, .int .u32 9, (.slice (some ⟨g4, 0, none⟩) (L + 1) c4)] 51)
              have hg := hal.grown HG8.out hal.size (fun k hk => by simp [Value.ownBlock] at hk)
              have b4 := HB.out.trans ((HAL.out.trans (HB4.out.mono HAL.out.size)).mono HB.out.size)
              have o8 := HO8.out
              rw [hv8] at o8
              refine ⟨gs, cs, _, hv8, ⟨(o8.lt gs rfl).2, (o8.cellAt 0 (by omega)).trans rfl, (o8.cellAt 1 (by omega)).trans rfl, (o8.cellAt 2 (by omega)).trans rfl, (o8.cellAt 3 (by omega)).trans rfl⟩, ?_, ?_, ?_⟩
              · have := (o8.lt gs rfl).1
                have := b4.size
                omega
              · exact own_base (own_below HO4.out hg) (by have h1 := HB.out.size; have h2 := HAL.out.size; omega)
              · exact b4.trans (hg.mono b4.size)
            case measure => simp [intOf]
          · go_wp2_with fail
            go_ret
            obtain ⟨gs, cs, v, rfl, h1, h2, h3, h4⟩ := HF.out
            exact ⟨gs, cs, v, rfl, h1, h2, h3, h4⟩
end Lo
end Go.Proofs.YtjmhkcfdmcjilaaGreat
/- Walks of the codec where a page is too great, and where there are no bytes. -/
set_option linter.unusedVariables false
set_option linter.unusedSimpArgs false
namespace Go.Proofs.YtjmhkcfdmcjilaaGreat
namespace Lo
open Go.RowKit Ai Fi

def formRuns (xs : List Op3) : Prop :=
  (∀ x ∈ xs, 0 ≤ x.l ∧ x.l < 512 ∧ 1 ≤ x.n ∧ x.n ≤ 512 - x.l ∧ 0 ≤ x.p ∧ x.p ≤ 2097152) ∧
  ∀ (i : Nat) (a x : Op3), xs[i]? = some a → xs[i + 1]? = some x → a.n ≤ x.l - a.l ∧ ¬ (x.l - a.l = a.n ∧ x.p - a.p = a.n)

set_option maxHeartbeats 4000000 in
set_option maxRecDepth 100000 in
theorem form2_ok (w : World) (A : Option Addr) (cap : Nat) (xs : List Op3) (hA : Acts3 w A xs) (hn : xs.length ≤ 512) (hf : formRuns xs) :
    Calls Tryz.prog 44 #[.slice A xs.length cap] w fun e w' => e = .returned (.bool true) ∧ Below w.heap.size w w' := by
  have HA := Ai.Aside.mk hA
  have HF := Ai.Aside.mk hf
  clear hA hf
  obtain ⟨n, hln⟩ : ∃ n, n = xs.length := ⟨_, rfl⟩
  rw [← hln] at hn
  rw [← hln]
  have HLN := Ai.Aside.mk hln
  clear hln
  go_enter Tryz.func44, Tryz.ntmps44
  go_wp2_with fail
  go_loopw [9] (fun v9 wr => ∃ (k : Nat), k ≤ n ∧ v9 = .int .i64 k ∧ Ai.Aside (Below w.heap.size w wr)) (fun v9 _ => n - (intOf v9).toNat)
  case atStart => exact ⟨0, by omega, rfl, ⟨Below.refl _ _⟩⟩
  case round =>
    obtain ⟨k, hk, rfl, HR⟩ := hrel
    by_cases hlt : k < n
    · obtain ⟨x, hx⟩ : ∃ x, xs[k]? = some x := ⟨_, List.getElem?_eq_getElem (by rw [← HLN.out]; exact hlt)⟩
      obtain ⟨b, off, rfl, hb, hcells⟩ := HA.out.2 (by rw [← HLN.out]; omega)
      have hxf := HF.out.1 x (List.mem_of_getElem? hx)
      have HC := Ai.Aside.mk (cells_at hcells hb HR.out)
      obtain ⟨hw0, hw1, hw2⟩ := HC.out k x hx
      have HX := Ai.Aside.mk hx
      have HBW := Ai.Aside.mk hb
      have HB2 := Ai.Aside.mk (HR.out.alloc HR.out.size (.cells #[.int .i64 x.l, .int .i64 x.n, .int .i64 x.p] 94))
      clear hcells hb hx
      by_cases hk0 : k = 0
      · subst hk0
        simp only [Nat.zero_mul, Nat.add_zero] at hw0 hw1 hw2
        go_wp2_with fail
        go_roundw
        case rel => exact ⟨1, by omega, by go_num, ⟨HB2.out⟩⟩
        case measure => simp [intOf]; omega
      · obtain ⟨j, rfl⟩ : ∃ j, k = j + 1 := ⟨k - 1, by omega⟩
        obtain ⟨a, ha⟩ : ∃ a, xs[j]? = some a := ⟨_, List.getElem?_eq_getElem (by rw [← HLN.out]; omega)⟩
        have HC2 := Ai.Aside.mk (cells_at HC.out (Nat.lt_of_lt_of_le HBW.out HR.out.size) ((Below.refl _ _).alloc (Nat.le_refl _) (.cells #[.int .i64 x.l, .int .i64 x.n, .int .i64 x.p] 94)))
        obtain ⟨hv0, hv1, hv2⟩ := HC2.out j a ha
        have haf := HF.out.1 a (List.mem_of_getElem? ha)
        have hpair := HF.out.2 j a x ha HX.out
        have HB3 := Ai.Aside.mk (HB2.out.alloc HB2.out.size (.cells #[.int .i64 a.l, .int .i64 a.n, .int .i64 a.p] 94))
        clear ha
        go_wp2_with fail
        all_goals first
          | (exfalso; omega)
          | (go_roundw
             case rel => exact ⟨j + 2, by omega, by go_num, ⟨HB3.out⟩⟩
             case measure => simp [intOf]; omega)
        go_ways
    · have hkn : k = n := by omega
      subst hkn
      go_wp2_with fail
      go_ret
      exact ⟨rfl, HR.out⟩

def SBadPost (w : World) (e : Ending) (w' : World) : Prop := e = .returned (.tuple #[.slice none 0 0, .int .i64 1]) ∧ Below w.heap.size w w'

set_option maxHeartbeats 4000000 in
set_option maxRecDepth 100000 in
theorem snapbad_ok (w : World) (A : Option Addr) (cap : Nat) (xs : List Op3) (hA : Acts3 w A xs) (hn : xs.length ≤ 512) (hf : formRuns xs) (hbad : ∃ x ∈ xs, 1048576 < x.p) :
    Calls Tryz.prog 11 #[.slice A xs.length cap] w (SBadPost w) := by
  have HCall := Ai.Aside.mk (form2_ok w A cap xs hA hn hf)
  have HA := Ai.Aside.mk hA
  have HF := Ai.Aside.mk hf
  have HBAD := Ai.Aside.mk hbad
  clear hA hf hbad
  obtain ⟨n, hln⟩ : ∃ n, n = xs.length := ⟨_, rfl⟩
  rw [← hln] at hn
  rw [← hln] at HCall
  rw [← hln]
  have HLN := Ai.Aside.mk hln
  clear hln
  have hmod : (n : Int) % 18446744073709551616 = (n : Int) := by omega
  go_enter Tryz.func11, Tryz.ntmps11
  go_wp2_with (first | (go_at_call 44; go_loud (refine HCall.out.mono ?_; rintro e w1 ⟨rfl, hb1⟩; have HB := Ai.Aside.mk hb1; clear hb1)))
  clear HCall
  go_loopw [21] (fun v21 wr => ∃ (k : Nat), k ≤ n ∧ v21 = .int .i64 k ∧ Ai.Aside (Below w.heap.size w wr ∧ ∀ i x, i < k → xs[i]? = some x → x.p ≤ 1048576)) (fun v21 _ => n - (intOf v21).toNat)
  case atStart => exact ⟨0, by omega, rfl, ⟨HB.out, fun i x hi => by omega⟩⟩
  case round =>
    obtain ⟨k, hk, rfl, HR⟩ := hrel
    clear HB
    by_cases hlt : k < n
    · obtain ⟨x, hx⟩ : ∃ x, xs[k]? = some x := ⟨_, List.getElem?_eq_getElem (by rw [← HLN.out]; exact hlt)⟩
      obtain ⟨b, off, rfl, hb, hcells⟩ := HA.out.2 (by rw [← HLN.out]; omega)
      have hxf := HF.out.1 x (List.mem_of_getElem? hx)
      obtain ⟨hw0, hw1, hw2⟩ := cells_at hcells hb HR.out.1 k x hx
      have HB2 := Ai.Aside.mk (HR.out.1.alloc HR.out.1.size (.cells #[.int .i64 x.l, .int .i64 x.n, .int .i64 x.p] 94))
      have HX := Ai.Aside.mk hx
      clear hcells hb hx
      by_cases hp : 1048576 < x.p
      · go_wp2_with fail
        all_goals first
          | (exfalso; omega)
          | (go_ret2
             exact ⟨rfl, HB2.out⟩)
      · go_wp2_with fail
        all_goals first
          | (exfalso; omega)
          | (go_roundw
             case rel => exact ⟨k + 1, by omega, by go_num, ⟨HB2.out, fun i y hi hy => by
               by_cases hik : i < k
               · exact HR.out.2 i y hik hy
               · have : i = k := by omega
                 subst this
                 have e := Option.some.inj (hy.symm.trans HX.out)
                 subst e
                 omega⟩⟩
             case measure => simp [intOf]; omega)
    · exfalso
      obtain ⟨x, hx, hxp⟩ := HBAD.out
      obtain ⟨i, hi, e⟩ := List.getElem_of_mem hx
      have := HR.out.2 i x (by have := HLN.out; omega) (by rw [List.getElem?_eq_getElem hi, e])
      omega

set_option maxHeartbeats 4000000 in
set_option maxRecDepth 100000 in
theorem getnil_ok (w : World) : Calls Tryz.prog 98 #[.slice none 0 0] w fun e w' => e = .returned (.tuple #[.int .u64 0, .int .i64 0, .int .i64 11]) ∧ w' = w := by
  go_enter Tryz.func98, Tryz.ntmps98
  go_wp2_with fail
  go_loopw [13] (fun v13 wr => v13 = .int .i64 0 ∧ wr = w) (fun _ _ => 0)
  case atStart => exact ⟨rfl, rfl⟩
  case round =>
    obtain ⟨rfl, rfl⟩ := hrel
    go_wp2_with fail
    go_ret3
    exact ⟨rfl, rfl⟩

set_option maxHeartbeats 4000000 in
set_option maxRecDepth 100000 in
theorem numnil_ok (w : World) (r : Nat) (h : RowV w r 120 [.slice none 0 0, .bool false]) : Calls Tryz.prog 59 #[.pointer (some ⟨r, 0, none⟩)] w fun e w' => e = .returned (.int .i64 0) ∧ Mod w w' r ∧ RowV w' r 120 [.slice none 0 0, .bool true] := by
  have HG := Ai.Aside.mk (fun W => getnil_ok W)
  have c0 := h.cell (i := 0) rfl
  have c1 := h.cell (i := 1) rfl
  have f1 := h.fr 1
  have HS := Ai.Aside.mk (h.set 1 (.bool true))
  clear h
  go_enter Tryz.func59, Tryz.ntmps59
  go_wp2_with (first | (go_at_call 98; go_loud (refine (HG.out _).mono ?_; rintro e w2 ⟨rfl, hw⟩; have hw2 := hw.symm; clear hw; subst hw2)))
  go_ret
  exact ⟨rfl, mod_set _ _ _ _, HS.out⟩

def RNilPost (w : World) (e : Ending) (w' : World) : Prop := e = .returned (.tuple #[.slice none 0 0, .int .i64 11]) ∧ Below w.heap.size w w'

set_option maxHeartbeats 4000000 in
set_option maxRecDepth 100000 in
theorem readnil_ok (w : World) : Calls Tryz.prog 23 #[.slice none 0 0] w (RNilPost w) := by
  go_enter Tryz.func23, Tryz.ntmps23
  go_upto_region 2 with (fail)
  have HBL := (Below.refl w.heap.size w).alloc (Nat.le_refl _) (.cells #[.slice none 0 0, .bool false] 120)
  have HR1 := Ai.Aside.mk (show RowV (w.alloc (.cells #[.slice none 0 0, .bool false] 120)) w.heap.size 120 [.slice none 0 0, .bool false] from RowV.new w [.slice none 0 0, .bool false] 120)
  have HW1 := Ai.Aside.mk HBL
  obtain ⟨r, hr⟩ : ∃ r, r = w.heap.size := ⟨_, rfl⟩
  rw [← hr] at HR1 ⊢
  have HRW := Ai.Aside.mk hr
  clear HBL hr
  generalize World.alloc w _ = w1 at HR1 HW1 ⊢
  have HNUM := Ai.Aside.mk (numnil_ok w1 r HR1.out)
  go_upto_region 8 with (first | (go_at_call 59; go_loud (refine HNUM.out.mono ?_; rintro e w2 ⟨rfl, hmod, hrd⟩; have HR2 := Ai.Aside.mk hrd; have HW2 := Ai.Aside.mk (hmod.below HW1.out HW1.out.size (by rw [HRW.out]; exact Nat.le_refl _)); clear hmod hrd)))
  go_loopw [6, 20] (fun v6 v20 wr => v6 = .slice none 0 0 ∧ v20 = .int .i64 0 ∧ wr = w2) (fun _ _ _ => 0)
  case atStart => exact ⟨rfl, rfl, rfl⟩
  case round =>
    obtain ⟨rfl, rfl, hwe⟩ := hrel
    subst hwe
    have HRC := Ai.Aside.mk (snapshot_ok wr none 0 [] ⟨(fun x hx => by cases hx), (fun h => absurd h (Nat.lt_irrefl 0))⟩ (by simp) ⟨(fun x hx => by cases hx), (fun i a x h => by simp at h)⟩)
    simp only [List.length_nil] at HRC
    go_upto_region 16 with (first | (go_at_call 11; go_loud (refine HRC.out.mono ?_; rintro e w5 ⟨v5, rfl, hb5, -⟩; have HB5 := Ai.Aside.mk hb5; clear hb5)))
    have cb := (HR2.out.below HB5.out).cell (i := 1) rfl
    go_wp2_with fail
    go_ret2
    exact ⟨rfl, HW2.out.trans (HB5.out.mono HW2.out.size)⟩
end Lo
end Go.Proofs.YtjmhkcfdmcjilaaGreat
/- A flat map and a map of runs keep each other. -/
set_option linter.unusedVariables false
set_option linter.unusedSimpArgs false
namespace Go.Proofs.YtjmhkcfdmcjilaaGreat
namespace Lo
open Go.RowKit Ai Fi

theorem flat_first {w : World} {m : Nat} {most : Int} {g cap : Nat} {t : List Int} (h : Flat w m most g cap t) (hl : 1 ≤ t.length) : ∃ x, w.cell? ⟨g, 0, none⟩ = some (.int .i64 x) := by
  obtain ⟨x, hx⟩ : ∃ x, t[0]? = some x := ⟨_, List.getElem?_eq_getElem (by omega)⟩
  exact ⟨x, h.tab.2 0 x hx⟩

theorem flat_rowObj {w : World} {m : Nat} {most : Int} {g cap : Nat} {t : List Int} (h : Flat w m most g cap t) : ∃ cur, w.heap[g]? = some (.cells cur 3 (0, 0)) := by
  rcases h.row.2 with ⟨h1, _⟩ | ⟨g', cap', cur, h1, _, h2, _⟩
  · cases h1
  · cases h1; exact ⟨cur, h2⟩

/-- A flat map's blocks are none of a map of runs. -/
theorem apart {w : World} {m : Nat} {gf cap : Nat} {tb : List Int} {mr t a g : Nat} {n : Int} {A : Ar} {T : Tr} (hF : Flat w m 512 gf cap tb) (hl : 1 ≤ tb.length) (hR : RMap w mr t a g n A T) :
    (m ≠ mr ∧ m ≠ t ∧ m ≠ a ∧ m ≠ g) ∧ (gf ≠ mr ∧ gf ≠ t ∧ gf ≠ a ∧ gf ≠ g) := by
  obtain ⟨cur, hc⟩ := flat_rowObj hF
  obtain ⟨x, hx⟩ := flat_first hF hl
  have hg := hR.tr.tr.ar.live 0 (by omega)
  have ho := hF.obj
  have hm0 : w.cell? ⟨m, 0, none⟩ = some (.int .i64 512) := hF.cells.1
  refine ⟨⟨?_, ?_, ?_, ?_⟩, ⟨?_, ?_, ?_, ?_⟩⟩
  · rintro rfl; have := ho.symm.trans hR.obj; simp at this
  · rintro rfl; have := ho.symm.trans hR.tr.tr.obj; simp at this
  · rintro rfl; have := ho.symm.trans hR.tr.tr.ar.obj; simp at this
  · rintro rfl; simp only [Nat.zero_mul] at hg; have := hm0.symm.trans hg; simp at this
  · rintro rfl; have := hc.symm.trans hR.obj; simp at this
  · rintro rfl; have := hc.symm.trans hR.tr.tr.obj; simp at this
  · rintro rfl; have := hc.symm.trans hR.tr.tr.ar.obj; simp at this
  · rintro rfl; simp only [Nat.zero_mul] at hg; have := hx.symm.trans hg; simp at this

theorem RMap.kept {w w' : World} {m : Nat} {mr t a g : Nat} {n : Int} {A : Ar} {T : Tr} (hR : RMap w mr t a g n A T) (hm : Mod w w' m) (h : m ≠ mr ∧ m ≠ t ∧ m ≠ a ∧ m ≠ g) : RMap w' mr t a g n A T :=
  hR.same (hm.block mr hR.ltm (Ne.symm h.1)) (hm.block t hR.tr.tr.ltt (Ne.symm h.2.1)) (hm.block a hR.tr.tr.ar.lta (Ne.symm h.2.2.1)) (hm.block g hR.tr.tr.ar.ltg (Ne.symm h.2.2.2))

theorem flat_kept {w w' : World} {m : Nat} {gf cap : Nat} {tb : List Int} {t a g : Nat} (hF : Flat w m 512 gf cap tb) (hm : ModB (TS t a g) w w') (h1 : m ≠ t ∧ m ≠ a ∧ m ≠ g) (h2 : gf ≠ t ∧ gf ≠ a ∧ gf ≠ g) : Flat w' m 512 gf cap tb := by
  have e1 : w'.heap[m]? = w.heap[m]? := hm.block m hF.ltm (by unfold TS; omega)
  have e2 : w'.heap[gf]? = w.heap[gf]? := hm.block gf hF.lt (by unfold TS; omega)
  refine ⟨e1.trans hF.obj, ?_, Nat.lt_of_lt_of_le hF.lt hm.size⟩
  rcases hF.row with ⟨k1, k2 | ⟨g', cap', cur, k3, k4, k5, k6⟩⟩
  · exact ⟨k1, .inl k2⟩
  · have k3' := k3
    cases k3'
    exact ⟨k1, .inr ⟨_, _, cur, k3, k4, e2.trans k5, k6⟩⟩

theorem applyT_ok {tb : List Int} (hT : okT tb) (hl : tb.length ≤ 64) (xs : List Op3) : (applyT tb xs).length = tb.length ∧ okT (applyT tb xs) := by
  unfold applyT
  split
  · rename_i h
    exact apply_take (by omega) hT xs (fun x hx => List.all_eq_true.1 h x hx)
  · exact ⟨rfl, hT⟩

theorem okT_none (n : Nat) : okT (List.replicate n (-1)) := fun x hx => by
  rw [List.mem_replicate] at hx; omega

/-- The runs of a table are runs in their form. -/
theorem runs_form {tb : List Int} (hT : okT tb) (hl : tb.length ≤ 64) : formRuns (runsTo tb tb.length) := by
  have inv := runInv hT.ok tb.length (Nat.le_refl _)
  refine ⟨fun x hx => ?_, inv.pair⟩
  have := inv.each x hx
  omega

theorem runs_ok_or {xs : List Op3} (h : formRuns xs) : okRuns xs ∨ ∃ x ∈ xs, 1048576 < x.p := by
  by_cases hb : ∃ x ∈ xs, 1048576 < x.p
  · exact .inr hb
  · refine .inl ⟨fun x hx => ?_, h.2⟩
    have h1 := h.1 x hx
    have h2 : ¬ 1048576 < x.p := fun e => hb ⟨x, hx, e⟩
    omega
end Lo
end Go.Proofs.YtjmhkcfdmcjilaaGreat
set_option linter.unusedVariables false
set_option linter.unusedSimpArgs false
namespace Go.Proofs.YtjmhkcfdmcjilaaGreat
namespace Lo
open Go.RowKit Ai Fi

theorem recB_len : ∀ (r : List Op3) (lba phys : Int), (∀ x ∈ r, rightOp x = true) → 0 ≤ lba → lba ≤ 1024 → 0 ≤ phys → phys ≤ 2097152 → (recB lba phys r).length ≤ 30 * r.length
  | [], _, _, _, _, _, _, _ => by simp [recB]
  | x :: r, lba, phys, h, h1, h2, h3, h4 => by
    have hx := h x (.head _)
    simp only [rightOp, decide_eq_true_eq] at hx
    have ih := fun l p => recB_len r l p (fun y hy => h y (.tail _ hy))
    have e1 := enc10 (zig (x.l - lba)) (zig_lt _ (by omega) (by omega))
    have e2 := enc10 x.n.toNat (by omega)
    rw [recB, List.length_append, List.length_append, List.length_cons]
    split
    · have e3 := enc10 0 (by omega)
      have := ih (x.l + x.n) phys (by omega) (by omega) h3 h4
      rw [List.length_append]; omega
    · have e3 : ∀ d : Int, -1099511627776 ≤ d → d < 1099511627776 → (enc (zig d)).length ≤ 10 := fun d a b => enc10 _ (zig_lt _ a b)
      have := ih (x.l + x.n) (x.p + x.n) (by omega) (by omega) (by omega) (by omega)
      rw [List.length_append]
      split
      · have := e3 (x.p - phys + 1) (by omega) (by omega); omega
      · have := e3 (x.p - phys) (by omega) (by omega); omega

theorem rec_short {ops : List Op3} (h : recOk ops = true) (hn : ops.length ≤ 40) : (enc ops.length ++ recB 0 0 ops).length ≤ 1210 := by
  unfold recOk at h
  have h1 := recB_len ops 0 0 (List.all_eq_true.1 h) (by omega) (by omega) (by omega) (by omega)
  have h2 := enc10 ops.length (by omega)
  rw [List.length_append]; omega

theorem lcut_pgok {bs : List Int} {i : Nat} (hb : ∀ x ∈ bs, 0 ≤ x ∧ x ≤ 255) (hn : bs.length ≤ 65536) (hi : i ≤ 2048) : (lcutP 3 1 9 bs i).Ok := by
  have hp := lcut_ok (k := 3) (ep := 1) (gr := 9) (i := i) hb
  refine ⟨by show (1 : Int) ≤ 3 ∧ (3 : Int) ≤ 3; omega, ?_, ?_, ?_, ?_, ?_, ?_, hp.1, hp.2⟩
  · show U32 (bs.length : Int); unfold U32; omega
  · show U32 0; unfold U32; omega
  · show U32 1; unfold U32; omega
  · show U32 9; unfold U32; omega
  · show U32 (i : Int); unfold U32; omega
  · show U32 (pagesV (bs.length : Int)); unfold U32 pagesV; split <;> (try split) <;> omega

/-- The pages' numbers, the last first. -/
def desc (T j : Nat) : List Nat := (List.range j).map fun k => T - 1 - k
theorem desc_succ (T j : Nat) : desc T (j + 1) = desc T j ++ [T - 1 - j] := by simp [desc, List.range_succ]
theorem desc_len (T j : Nat) : (desc T j).length = j := by simp [desc]
theorem desc_mem (T : Nat) (i : Nat) : i ∈ desc T T ↔ i < T := by
  simp only [desc, List.mem_map, List.mem_range]
  constructor
  · rintro ⟨k, hk, rfl⟩; omega
  · intro h; exact ⟨T - 1 - i, by omega, by omega⟩
theorem desc_nodup (T : Nat) : (desc T T).Nodup := by
  unfold desc List.Nodup
  rw [List.pairwise_map]
  refine List.Pairwise.imp_of_mem ?_ (List.nodup_range (n := T))
  intro a b ha hb hne e
  rw [List.mem_range] at ha hb
  omega

theorem cut_get {bs : List Int} {T i : Nat} (h : i < T) : (lcutL 3 1 9 bs T)[i]? = some (lcutP 3 1 9 bs i) := by
  simp [lcutL, h]
end Lo
end Go.Proofs.YtjmhkcfdmcjilaaGreat
