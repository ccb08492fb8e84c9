/-
  Laws: a slice of one struct; walk: leaf.Cut.
-/
import Derived.Test.YtjmhkcfdmcjilaaGreatLpV
import Derived.Test.YtjmhkcfdmcjilaaGreatFiM
set_option linter.unusedVariables false
set_option linter.unusedSimpArgs false
namespace Go.Proofs.YtjmhkcfdmcjilaaGreat
namespace Lo
open Go.RowKit Ai Fi

theorem fill_fold : ∀ (vs pre suf : List Value), suf.length = vs.length →
    (vs.zipIdx pre.length).foldl (fun (cs : Array Value) (p : Value × Nat) => cs.setIfInBounds (0 + p.2) p.1) (pre ++ suf).toArray = (pre ++ vs).toArray
  | [], pre, suf, h => by
    obtain rfl : suf = [] := List.eq_nil_of_length_eq_zero h
    rfl
  | v :: r, pre, [], h => by simp at h
  | v :: r, pre, u :: suf, h => by
    rw [List.zipIdx_cons, List.foldl_cons]
    have e : (pre ++ u :: suf).toArray.setIfInBounds (0 + pre.length) v = ((pre ++ [v]) ++ suf).toArray := by
      simp
    have ih := fill_fold r (pre ++ [v]) suf (by simpa using h)
    have hl : (pre ++ [v]).length = pre.length + 1 := by simp
    rw [hl] at ih
    show List.foldl _ ((pre ++ u :: suf).toArray.setIfInBounds (0 + pre.length) v) _ = _
    rw [e, ih]
    simp

theorem fill_one (place : Nat → Option (Nat × Nat)) (cells : Array Value) (vs : List Value) (hp : place 0 = some (0, vs.length)) (hc : cells.size = vs.length) :
    Instr.fill place cells [(0, .agg vs.toArray)] = some vs.toArray := by
  unfold Instr.fill
  rw [hp]
  have e : (Value.agg vs.toArray).cells = vs.toArray := rfl
  simp only [e, List.size_toArray]
  rw [if_neg (by simp [hc])]
  unfold Instr.fill
  congr 1
  have := fill_fold vs [] cells.toList (by simpa using hc)
  simpa using this

theorem wpList_buildSlice_one {P : Program} {w : World} {ops : Array Oper} {rest : List Oper} {o : Oper} {a : Act} {Q : Exit → Act → World → Prop} (hg : o.guard = none) (t : TypeId) (x : Operand) (hop : o.op = Op.buildSlice t 1 #[(0, x)])
    (e : TypeId) (i : TypeInfo) (z : Value) (vs : List Value) (hu : P.underlying t = some (.slice e)) (hi : P.info? e = some i) (hz : i.zero = some z) (hs : i.size = vs.length) (hn0 : 0 < vs.length) (hn : vs.length ≤ 1000)
    (hx : a.eval x = .agg vs.toArray)
    (hK : ∀ w', RowV w' w.heap.size e vs → Below w.heap.size w w' → wpList P ops Q rest (a.put o.dst (.slice (some ⟨w.heap.size, 0, none⟩) 1 1)) w') : wpList P ops Q (o :: rest) a w := by
  have hrun : (Instr.buildSlice t 1 #[(0, .agg vs.toArray)]).run P w = .ok (.slice (some ⟨w.heap.size, 0, none⟩) 1 1) (w.alloc (.cells vs.toArray e)) := by
    have hne : ¬ vs.length = 0 := by omega
    have hbig : ¬ 16777216 < vs.length := by omega
    simp [Instr.buildSlice, run_underlying hu, sizeOf, typeInfo, hi, hs, hbig, hne, zeroValue, hz]
    rw [fill_one _ _ vs (by simp) (by simp)]
    simp [newRow, Result.andThen]
  refine wpList_plain hg fun K hK' => ?_
  unfold Oper.wp
  simp [execOp, hop, hx, hrun, Result.andThen]
  exact hK' _ _ (hK _ (RowV.new w vs e) ((Below.refl w.heap.size w).alloc (Nat.le_refl _) _))

theorem own_mod {w w' : World} {base q n : Nat} {e : TypeId} {size : Nat} {v : Value} {xs : List Value} (h : w.ownsRow base e size v n xs) (hm : Mod w w' q) (hne : v.ownBlock ≠ some q) : w'.ownsRow base e size v n xs := by
  rcases h with ⟨h1, h2 | ⟨g, cap, cur, h3, h4, h5, h6⟩⟩
  · exact ⟨h1, .inl h2⟩
  · refine ⟨h1, .inr ⟨g, cap, cur, h3, h4, ?_, h6⟩⟩
    rw [hm.block g (Array.getElem?_eq_some_iff.1 h5).1 (fun e => hne (by rw [h3, e]; rfl))]
    exact h5

theorem info55 : (Tryz.prog.info? 55).map (fun i => (i.zero, i.size, i.bytes)) = some (some (.agg Pg.zero.cells.toArray), 39, 64) := by kernel_rfl

/-- A payload filled up by noughts. -/
def pad (l : List Int) : List Int := l ++ List.replicate (32 - l.length) 0

/-- A page of a stream. -/
def lcutP (k ep gr : Int) (bs : List Int) (i : Nat) : Pg := ⟨k, bs.length, 0, ep, gr, i, pagesV bs.length, pad ((bs.drop (i * 32)).take 32)⟩
def lcutL (k ep gr : Int) (bs : List Int) (n : Nat) : List Pg := (List.range n).map (lcutP k ep gr bs)
def pgsV (l : List Pg) : List Value := l.flatMap Pg.cells

theorem lcutL_succ (k ep gr : Int) (bs : List Int) (n : Nat) : lcutL k ep gr bs (n + 1) = lcutL k ep gr bs n ++ [lcutP k ep gr bs n] := by
  simp [lcutL, List.range_succ]
theorem pgsV_snoc (l : List Pg) (p : Pg) : pgsV (l ++ [p]) = pgsV l ++ p.cells := by simp [pgsV]
theorem pad_len {l : List Int} (h : l.length ≤ 32) : (pad l).length = 32 := by simp [pad]; omega

def LCutPost (w : World) (k ep gr : Int) (bs : List Int) (e : Ending) (w' : World) : Prop :=
  ∃ v, e = .returned (.tuple #[v, .int .i64 0]) ∧ w'.ownsRow w.heap.size 55 39 v (pagesV bs.length).toNat (pgsV (lcutL k ep gr bs (pagesV bs.length).toNat)) ∧ Below w.heap.size w w'

def lcutQ (k n ep gr i t : Int) : Pg := ⟨k, n, 0, ep, gr, i, t, List.replicate 32 0⟩

theorem buildCut (w : World) (k n ep gr i t : Int) : (Instr.build 55 #[(0, .int .i64 k), (1, .int .u32 n), (3, .int .u32 ep), (4, .int .u32 gr), (5, .int .u32 i), (6, .int .u32 t)]).run Tryz.prog w = .ok (.agg (lcutQ k n ep gr i t).cells.toArray) w := by kernel_rfl

theorem lcut_full (k ep gr : Int) (bs : List Int) (i : Nat) : splice (lcutQ k bs.length ep gr i (pagesV bs.length)).cells 7 (byI ((bs.drop (i * 32)).take 32)) = (lcutP k ep gr bs i).cells := by
  have hl : ((bs.drop (i * 32)).take 32).length ≤ 32 := by simp; omega
  unfold splice lcutP
  generalize (bs.drop (i * 32)).take 32 = x at hl ⊢
  have e1 : (lcutQ k bs.length ep gr i (pagesV bs.length)).cells.take 7 = (⟨k, bs.length, 0, ep, gr, i, pagesV bs.length, []⟩ : Pg).cells := rfl
  have e2 : (lcutQ k bs.length ep gr i (pagesV bs.length)).cells.drop (7 + (byI x).length) = byI (List.replicate (32 - x.length) 0) := by
    rw [by_len, ← List.drop_drop]
    have e3 : (lcutQ k bs.length ep gr i (pagesV bs.length)).cells.drop 7 = List.replicate 32 (.int .u8 0) := rfl
    rw [e3, List.drop_replicate, byI, List.map_replicate]
  rw [e1, e2]
  simp [Pg.cells, Pg.nums, pad, byI]

set_option maxHeartbeats 4000000 in
set_option maxRecDepth 100000 in
theorem cut15_ok3 (w : World) (ep gr : Int) (g off n cap : Nat) (bs : List Int) (hB : Bts w g off bs) (hn : bs.length = n) (hn1 : 1 ≤ n) (hn2 : n ≤ 65536) (hc : n ≤ cap) :
    Calls Tryz.prog 15 #[.agg #[.int .i64 3, .int .u32 ep, .int .u32 gr, .slice (some ⟨g, off, none⟩) n cap]] w (LCutPost w 3 ep gr bs) := by
  have HB := Ai.Aside.mk hB
  have HN := Ai.Aside.mk hn
  obtain ⟨i0, hi, hz0, hz1, hz2⟩ := info_parts info55
  have HI := Ai.Aside.mk (And.intro hi (And.intro hz0 (And.intro hz1 hz2)))
  clear hB hn hi hz0 hz1 hz2
  obtain ⟨T, hT⟩ : ∃ T : Nat, T = (pagesV bs.length).toNat := ⟨_, rfl⟩
  have hTV : pagesV (n : Int) = (T : Int) := by rw [hT, HN.out]; unfold pagesV; split <;> (try split) <;> omega
  have hTb : (32 : Int) * ((T : Int) - 1) < n ∧ 1 ≤ T ∧ T ≤ 2048 := by
    have h2 := hTV
    unfold pagesV at h2
    split at h2 <;> (try split at h2) <;> omega
  have hPG := fun W => pages_ok (n : Int) W
  rw [hTV] at hPG
  have HPG := Ai.Aside.mk hPG
  have HTE := Ai.Aside.mk hT
  have HTV := Ai.Aside.mk hTV
  clear hPG hT hTV
  go_enter Tryz.func15, Tryz.ntmps15
  go_upto_region 1 with (fail)
  have HBL := (Below.refl w.heap.size w).alloc (Nat.le_refl _) (.cells #[.int .i64 3, .int .u32 ep, .int .u32 gr, .slice (some ⟨g, off, none⟩) n cap] 51)
  have HR1 := Ai.Aside.mk (RowV.new w [.int .i64 3, .int .u32 ep, .int .u32 gr, .slice (some ⟨g, off, none⟩) n cap] 51)
  have HB1 := Ai.Aside.mk (HB.out.below HBL)
  have HW1 := Ai.Aside.mk HBL
  clear HB HBL
  obtain ⟨s, hs⟩ : ∃ s, s = w.heap.size := ⟨_, rfl⟩
  rw [← hs] at HR1
  rw [← hs]
  have HSW := Ai.Aside.mk hs
  clear hs
  generalize World.alloc w _ = w1 at HR1 HB1 HW1 ⊢
  have c0 := HR1.out.cell (i := 0) rfl
  have c3 := HR1.out.cell (i := 3) rfl
  go_upto_region 7 with (first | (go_at_call 12; go_loud (refine (HPG.out _).mono ?_; rintro e w2 ⟨rfl, hw⟩; have hw2 := hw.symm; clear hw; subst hw2)))
  go_upto_region 8 with (fail)
  clear c0 c3
  go_loopw [5, 27] (fun v5 v27 wr => ∃ (i : Nat), i ≤ T ∧ v27 = .int .i64 i ∧ Ai.Aside (wr.ownsRow w1.heap.size 55 39 v5 i (pgsV (lcutL 3 ep gr bs i)) ∧ Below w1.heap.size w1 wr)) (fun _ v27 _ => T - (intOf v27).toNat)
  case atStart => exact ⟨0, by omega, rfl, ⟨World.ownsRow_nil _ _ _ _, Below.refl _ _⟩⟩
  case round =>
    obtain ⟨i, hi, rfl, HR⟩ := hrel
    have HRB := Ai.Aside.mk (HR1.out.below HR.out.2)
    by_cases hlt : i < T
    · have c0 := HRB.out.cell (i := 0) rfl
      have c1 := HRB.out.cell (i := 1) rfl
      have c2 := HRB.out.cell (i := 2) rfl
      have c3 := HRB.out.cell (i := 3) rfl
      have hm1 : (n : Int) % 4294967296 = (n : Int) := by omega
      have hm2 : (i : Int) % 4294967296 = (i : Int) := by omega
      have hm3 : (T : Int) % 4294967296 = (T : Int) := by omega
      have HBU := Ai.Aside.mk (buildCut wr 3 n ep gr i T)
      have HLN := Ai.Aside.mk (show Pg.zero.cells.length = (lcutQ 3 n ep gr i T).cells.length from rfl)
      have HSZ := Ai.Aside.mk (show (Tryz.prog.info? 55).map (·.size) = some (lcutQ 3 n ep gr i T).cells.length from pgSize)
      have HON := Ai.Aside.mk (pg_one (lcutQ 3 n ep gr i T))
      obtain ⟨qs, hqs⟩ : ∃ qs, qs = (lcutQ 3 n ep gr i T).cells := ⟨_, rfl⟩
      rw [← hqs] at HBU HLN HSZ HON
      have HQS := Ai.Aside.mk hqs
      clear hqs
      go_upto_region 11 with (first | ((with_reducible refine wpList_build rfl 55 _ rfl (.agg qs.toArray) ?_ ?_); (exact HBU.out)) | ((with_reducible refine wpList_alloc_row rfl 55 rfl _ (alloc55 wr) ?_); intro w4 hrow hbel; have HQ := Ai.Aside.mk hrow; have HBL := Ai.Aside.mk hbel; clear hrow hbel) | ((with_reducible refine wpList_store_row rfl 55 _ _ rfl wr.heap.size qs _ ?_ ?_ HQ.out HLN.out HSZ.out HON.out ?_); (kernel_rfl); (kernel_rfl); intro w5 hrow hmod; have HQ5 := Ai.Aside.mk hrow; have HM5 := Ai.Aside.mk hmod; clear hrow hmod))
      obtain ⟨q, hq⟩ : ∃ q, q = wr.heap.size := ⟨_, rfl⟩
      rw [← hq] at HQ5 HM5
      have HQN := Ai.Aside.mk (show wr.heap.size ≤ q by omega)
      have HNE := Ai.Aside.mk (show w1.heap.size ≤ q ∧ g ≠ q ∧ s ≠ q from ⟨by have := HR.out.2.size; omega, by have := HB1.out.1; have := HR.out.2.size; omega, by have := HRB.out.lt; omega⟩)
      have HB5 := Ai.Aside.mk (((HB1.out.below HR.out.2).below HBL.out).mod HM5.out HNE.out.2.1)
      have HR5 := Ai.Aside.mk ((HRB.out.below HBL.out).mod HM5.out HNE.out.2.2)
      have HW5 := Ai.Aside.mk (HM5.out.below (HR.out.2.trans (HBL.out.mono HR.out.2.size)) (Nat.le_trans HR.out.2.size HBL.out.size) HNE.out.1)
      have HO5 := Ai.Aside.mk (own_mod (own_below HR.out.1 HBL.out) HM5.out (fun h => by have := (HR.out.1.lt q h).2; omega))
      have k3 := HR5.out.cell (i := 3) rfl
      have HSRC := Ai.Aside.mk (show Bts w5.drew g (off + i * 32) ((bs.drop (i * 32)).take 32) from (HB5.out.sub (i * 32)).take 32)
      have hcl : ((bs.drop (i * 32)).take 32).length = min 32 (n - i * 32) := by rw [List.length_take, List.length_drop, HN.out]
      have HFULL := Ai.Aside.mk (lcut_full 3 ep gr bs i)
      obtain ⟨cs, hcs⟩ : ∃ cs, cs = (bs.drop (i * 32)).take 32 := ⟨_, rfl⟩
      rw [← hcs] at HSRC hcl HFULL
      have hbl := by_len cs
      rw [hcl] at hbl
      have hqsl : qs.length = 39 := by rw [← HLN.out]; rfl
      rw [← hq]
      have hw32 : IntKind.i64.wrap ((i : Int) * 32) = (i : Int) * 32 := by rw [IntKind.wrap_i64]; omega
      have hin : i * 32 < n := by omega
      have hle : (i : Int) * 32 ≤ (n : Int) := by omega
      have hge : (0 : Int) ≤ (i : Int) * 32 := by omega
      have hcc : ¬ cap = i * 32 := by omega
      have hti : ((i : Int) * 32).toNat = i * 32 := by omega
      clear HQ HBL HBU HRB hcs hq c0 c1 c2 c3
      go_region_law (refine step_copy_rowV rfl (.tmp 46) (.tmp 51) 37 37 rfl 5 Tryz.underlying37 byteSize q 7 32 32 (n - i * 32) (cap - i * 32) ⟨g, off + i * 32, none⟩ rfl rfl 55 qs (byI cs) HQ5.out (by rw [hbl]; exact Nat.min_comm _ _) HSRC.out.src (by rw [hbl, hqsl]; omega) (by_one _) ?_; intro w6 hm6 hr6)
      have HP6 := Ai.Aside.mk (show RowV w6 q 55 (lcutP 3 ep gr bs i).cells by rw [← HFULL.out, HN.out, HTV.out, ← HQS.out]; exact hr6)
      have HW6 := Ai.Aside.mk (hm6.below (below_drew HW5.out) HW5.out.size HNE.out.1)
      have HO6 := Ai.Aside.mk (own_mod (show w5.drew.ownsRow w1.heap.size 55 39 u5 i (pgsV (lcutL 3 ep gr bs i)) from HO5.out) hm6 (fun h => by have h1 := (HR.out.1.lt q h).2; have h2 := HNE.out.1; exact absurd h1 (by have := HQN.out; omega)))
      have HSN := Ai.Aside.mk (show pgsV (lcutL 3 ep gr bs (i + 1)) = pgsV (lcutL 3 ep gr bs i) ++ (lcutP 3 ep gr bs i).cells by rw [lcutL_succ, pgsV_snoc])
      have hpl : (lcutP 3 ep gr bs i).pay.length = 32 := pad_len (by simp; omega)
      have HL6 := Ai.Aside.mk (pg_len hpl)
      have HS6 := Ai.Aside.mk (show (Tryz.prog.info? 55).map (·.size) = some (lcutP 3 ep gr bs i).cells.length by rw [pg_len hpl]; exact pgSize)
      have HO1 := Ai.Aside.mk (pg_one (lcutP 3 ep gr bs i))
      clear hm6 hr6 HSRC HFULL HB5 HR5 HW5 HO5 HQ5 HM5 HQS HLN HSZ HON k3 hpl hw32 hin hle hge hcc hti hcl hbl hqsl
      generalize (lcutP 3 ep gr bs i).cells = vs at *
      go_wp2_with (first | ((with_reducible refine wpList_load_mid rfl 55 _ rfl q 0 ?_ vs _ HP6.out.range Tryz.underlying55 ?_ HS6.out ?_); (kernel_rfl); (rfl)) | ((with_reducible refine wpList_buildSlice_one rfl 46 _ rfl 55 i0 _ vs Tryz.underlying46 HI.out.1 HI.out.2.1 ?_ ?_ ?_ ?_ ?_); (rw [HI.out.2.2.1, HL6.out]); (rw [HL6.out]; decide); (rw [HL6.out]; decide); (kernel_rfl); intro w7 hrow hbel; have HR7 := Ai.Aside.mk hrow; have HBL7 := Ai.Aside.mk hbel; clear hrow hbel) | (at_builtin; go_loud (refine wpList_append_own _ rfl (.tmp 53) (.tmp 55) 46 rfl w1.heap.size 55 i0 (.agg Pg.zero.cells.toArray) 39 64 Tryz.underlying46 HI.out.1 HI.out.2.1 HI.out.2.2.1 HI.out.2.2.2 rfl (by decide) u5 i (pgsV (lcutL 3 ep gr bs i)) (by kernel_rfl) (own_below HO6.out HBL7.out) ⟨w6.heap.size, 0, none⟩ 1 1 vs (by kernel_rfl) (by rw [HL6.out]) (fun j u hj => by rw [add_addr, Nat.zero_add]; exact HR7.out.cell hj) HO1.out (by unfold maxLen; omega) (by omega) (by have h1 := HW6.out.size; have h2 := HBL7.out.size; omega) ?_; intro v' w8 hown8 hgrow8 hnil8; have HO8 := Ai.Aside.mk hown8; have HG8 := Ai.Aside.mk hgrow8; clear hown8 hgrow8 hnil8)))
      have HB8 := Ai.Aside.mk ((HW6.out.trans (HBL7.out.mono HW6.out.size)).grown HG8.out (Nat.le_trans HW6.out.size HBL7.out.size) (fun k hk => (HO6.out.lt k hk).1))
      go_roundw
      case rel => exact ⟨i + 1, by omega, by go_num, ⟨by rw [HSN.out]; exact HO8.out, HB8.out⟩⟩
      case measure => simp [intOf]; omega
    · obtain rfl : i = T := by omega
      go_wp2_with fail
      go_ret2
      exact ⟨u5, rfl, by rw [← HTE.out]; exact own_base HR.out.1 HW1.out.size, HW1.out.trans (HR.out.2.mono HW1.out.size)⟩
end Lo
end Go.Proofs.YtjmhkcfdmcjilaaGreat
