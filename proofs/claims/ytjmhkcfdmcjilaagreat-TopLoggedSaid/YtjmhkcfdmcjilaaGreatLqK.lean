/-
  Walk: TopLogged.
-/
import Derived.Test.YtjmhkcfdmcjilaaGreatLqJ
import Derived.Test.YtjmhkcfdmcjilaaGreatAiX
set_option linter.unusedVariables false
set_option linter.unusedSimpArgs false
namespace Go.Proofs.YtjmhkcfdmcjilaaGreat
namespace Lo
open Go.RowKit Ai Fi

def LoggedPost (w : World) (e : Ending) (w' : World) : Prop := e = .returned (.bool true) ∧ Below w.heap.size w w'

set_option maxHeartbeats 4000000 in
set_option maxRecDepth 100000 in
theorem logged_out (w : World) (N : Int) (isF : Bool) (A : Option Addr) (n capA : Nat) (h : N < 1 ∨ 64 < N ∨ 40 < n) :
    Calls Tryz.prog 4 #[.int .i64 N, .slice A n capA, .bool isF] w (LoggedPost w) := by
  have HA := Ai.Aside.mk (awake_ok w)
  have hcase : N < 1 ∨ (¬ N < 1 ∧ 64 < N) ∨ (¬ N < 1 ∧ ¬ 64 < N ∧ 40 < n) := by omega
  clear h
  rcases hcase with h1 | ⟨h1, h2⟩ | ⟨h1, h2, h3⟩
  · have hd : decide (N < 1) = true := decide_eq_true h1
    go_enter Tryz.func4, Tryz.ntmps4
    go_wp2_with (first | (go_at_call 5; go_loud (refine HA.out.mono ?_; rintro e w1 ⟨rfl, hb⟩; have HB := Ai.Aside.mk hb; clear hb)))
    go_ret
    exact ⟨rfl, HB.out⟩
  · have hd : decide (N < 1) = false := decide_eq_false h1
    have hd2 : decide (64 < N) = true := decide_eq_true h2
    go_enter Tryz.func4, Tryz.ntmps4
    go_wp2_with (first | (go_at_call 5; go_loud (refine HA.out.mono ?_; rintro e w1 ⟨rfl, hb⟩; have HB := Ai.Aside.mk hb; clear hb)))
    go_ret
    exact ⟨rfl, HB.out⟩
  · have hd : decide (N < 1) = false := decide_eq_false h1
    have hd2 : decide (64 < N) = false := decide_eq_false h2
    have hd3 : decide (40 < (n : Int)) = true := decide_eq_true (by omega)
    go_enter Tryz.func4, Tryz.ntmps4
    go_wp2_with (first | (go_at_call 5; go_loud (refine HA.out.mono ?_; rintro e w1 ⟨rfl, hb⟩; have HB := Ai.Aside.mk hb; clear hb)))
    go_ret
    exact ⟨rfl, HB.out⟩

theorem acts_mod2 {w w' : World} {A : Option Addr} {xs : List Op3} {m : Nat} (h : Acts3 w A xs) (hm : Mod w w' m) (hne : 0 < xs.length → ∀ b off, A = some ⟨b, off, none⟩ → b ≠ m) : Acts3 w' A xs := by
  refine ⟨h.1, fun h0 => ?_⟩
  obtain ⟨b, off, rfl, hb, hc⟩ := h.2 h0
  have hbm := hne h0 b off rfl
  have e : ∀ k, w'.cell? ⟨b, k, none⟩ = w.cell? ⟨b, k, none⟩ := fun k => by
    unfold World.cell?
    simp only
    rw [hm.block b hb hbm]
  exact ⟨b, off, rfl, Nat.lt_of_lt_of_le hb hm.size, fun i x hx => by rw [e, e, e]; exact hc i x hx⟩

theorem acts_modB2 {w w' : World} {A : Option Addr} {xs : List Op3} {S : Nat → Prop} (h : Acts3 w A xs) (hm : ModB S w w') (hne : 0 < xs.length → ∀ b off, A = some ⟨b, off, none⟩ → ¬ S b) : Acts3 w' A xs := by
  refine ⟨h.1, fun h0 => ?_⟩
  obtain ⟨b, off, rfl, hb, hc⟩ := h.2 h0
  have hbm := hne h0 b off rfl
  have e : ∀ k, w'.cell? ⟨b, k, none⟩ = w.cell? ⟨b, k, none⟩ := fun k => by
    unfold World.cell?
    simp only
    rw [hm.block b hb hbm]
  exact ⟨b, off, rfl, Nat.lt_of_lt_of_le hb hm.size, fun i x hx => by rw [e, e, e]; exact hc i x hx⟩

theorem modB_below {S : Nat → Prop} {w w' a : World} {B : Nat} (h : ModB S w w') (hb : Below B a w) (hB : B ≤ w.heap.size) (hS : ∀ k, S k → B ≤ k) : Below B a w' :=
  ⟨h.os.trans hb.os, h.tape.trans hb.tape, h.output.trans hb.output, Nat.le_trans hb.size h.size, fun k hk => (h.block k (by omega) (fun e => by have := hS k e; omega)).trans (hb.block k hk)⟩

theorem snapB_len : ∀ (r : List Op3) (lba phys : Int), (∀ x ∈ r, 0 ≤ x.l ∧ x.l < 512 ∧ 1 ≤ x.n ∧ x.n ≤ 512 - x.l ∧ 0 ≤ x.p ∧ x.p ≤ 1048576) → 0 ≤ lba → lba ≤ 1024 → 0 ≤ phys → phys ≤ 2097152 → (snapB lba phys r).length ≤ 30 * r.length
  | [], _, _, _, _, _, _, _ => by simp [snapB]
  | x :: r, lba, phys, h, h1, h2, h3, h4 => by
    have hx := h x (.head _)
    have ih := snapB_len r (x.l + x.n) (x.p + x.n) (fun y hy => h y (.tail _ hy)) (by omega) (by omega) (by omega) (by omega)
    have e1 := enc10 (x.l - lba).toNat (by omega)
    have e2 := enc10 (x.n - 1).toNat (by omega)
    have e3 := enc10 (zig (x.p - phys)) (zig_lt _ (by omega) (by omega))
    rw [snapB, List.length_append, List.length_append, List.length_append, List.length_cons]
    omega

theorem snap_short {rs : List Op3} (h : okRuns rs) (hn : rs.length ≤ 512) : (enc rs.length ++ snapB 0 0 rs).length ≤ 15370 := by
  have h1 := snapB_len rs 0 0 h.1 (by omega) (by omega) (by omega) (by omega)
  have h2 := enc10 rs.length (by omega)
  rw [List.length_append]; omega

theorem enc_vs (w : World) (p : Pg) (vs : List Value) (hp : p.Ok) (hv : vs = p.cells) : Calls Tryz.prog 16 #[.agg vs.toArray] w fun e w' => ∃ g, e = .returned (.tuple #[.slice (some ⟨g, 0, none⟩) 68 68, .int .i64 0]) ∧ RowB w' g p.enc ∧ Below w.heap.size w w' := by
  subst hv
  refine (enc16_ok w p hp).mono ?_
  rintro e w' ⟨g, rfl, _, h1, h2⟩
  exact ⟨g, rfl, h1, h2⟩

theorem dec_vs (w : World) (g : Nat) (p : Pg) (vs : List Value) (hp : p.Ok) (hv : vs = p.cells) (hg : RowB w g p.enc) : Calls Tryz.prog 17 #[.slice (some ⟨g, 0, none⟩) 68 68] w fun e w' => e = .returned (.tuple #[.agg vs.toArray, .int .i64 0]) ∧ Below w.heap.size w w' := by
  subst hv
  refine (dec17_ok w g 0 68 p hp (hg.bts (enc_byte hp)) (Nat.le_refl _)).mono ?_
  rintro e w' ⟨rfl, h2⟩
  exact ⟨rfl, h2⟩
set_option maxHeartbeats 8000000 in
set_option maxRecDepth 100000 in
theorem logged_in (w : World) (N : Nat) (isF : Bool) (A : Option Addr) (capA : Nat) (ops : List Op3) (hA : Acts3 w A ops) (hN : 1 ≤ N ∧ N ≤ 64) (hn : ops.length ≤ 40) :
    Calls Tryz.prog 4 #[.int .i64 N, .slice A ops.length capA, .bool isF] w (LoggedPost w) := by
  have HAW := Ai.Aside.mk (awake_ok w)
  have HA := Ai.Aside.mk hA
  obtain ⟨n, hne⟩ : ∃ n, n = ops.length := ⟨_, rfl⟩
  have HLN := Ai.Aside.mk hne
  have HRC0 := Ai.Aside.mk (fun (W : World) (hW : Below w.heap.size w W) => record_ok W A capA ops (hA.below hW (Nat.le_refl _)) (by omega))
  rw [← hne] at hn HRC0 ⊢
  have hd : decide ((N : Int) < 1) = false := decide_eq_false (by omega)
  have hd2 : decide (64 < (N : Int)) = false := decide_eq_false (by omega)
  have hd3 : decide (40 < (n : Int)) = false := decide_eq_false (by omega)
  clear hA hne
  cases hro : recOk ops with
  | false =>
    have HRO := Ai.Aside.mk hro
    clear hro
    go_enter Tryz.func4, Tryz.ntmps4
    go_wp2_with (first | (go_at_call 5; go_loud (refine HAW.out.mono ?_; rintro e w1 ⟨rfl, hb⟩; have HB := Ai.Aside.mk hb; clear hb)) | (go_at_call 14; go_loud (refine (HRC0.out _ HB.out).mono ?_; rintro e w2 ⟨v2, er, rfl, hb2, -, her⟩; obtain rfl := her HRO.out; have HB2 := Ai.Aside.mk hb2; clear hb2 her)))
    go_ret
    exact ⟨rfl, HB.out.trans (HB2.out.mono HB.out.size)⟩
  | true =>
    have HRO := Ai.Aside.mk hro
    clear hro
    obtain ⟨i0, hi, hz0, hz1, hz2⟩ := info_parts info55
    have HI := Ai.Aside.mk (And.intro hi (And.intro hz0 (And.intro hz1 hz2)))
    clear hi hz0 hz1 hz2
    obtain ⟨nb, hnb⟩ : ∃ nb, nb = enc n ++ recB 0 0 ops := ⟨_, rfl⟩
    have hshort := rec_short HRO.out (by rw [← HLN.out]; exact hn)
    rw [← HLN.out, ← hnb] at hshort
    have HNB := Ai.Aside.mk hnb
    obtain ⟨L, hL⟩ : ∃ L, nb.length = L + 1 := ⟨nb.length - 1, by rw [hnb, List.length_append]; have := enc_pos n; omega⟩
    have hL2 : L + 1 ≤ 1210 := by omega
    have HNL := Ai.Aside.mk hL
    have hby : ∀ x ∈ natI nb, 0 ≤ x ∧ x ≤ 255 := natI_byte (fun y hy => by
      rw [hnb, List.mem_append] at hy
      rcases hy with hy | hy
      · exact enc_le _ _ hy
      · exact recB_le _ _ _ _ hy)
    have HBY := Ai.Aside.mk hby
    have hbl : (natI nb).length = L + 1 := by rw [natI, List.length_map]; exact hL
    have HBL := Ai.Aside.mk hbl
    obtain ⟨T, hT⟩ : ∃ T : Nat, pagesV ((natI nb).length : Int) = T := ⟨(pagesV ((natI nb).length : Int)).toNat, by rw [hbl]; unfold pagesV; split <;> (try split) <;> omega⟩
    have hTb : 1 ≤ T ∧ T ≤ 40 := by rw [hbl] at hT; unfold pagesV at hT; split at hT <;> (try split at hT) <;> omega
    have HT := Ai.Aside.mk hT
    clear hnb hL hshort hby hbl hT
    go_enter Tryz.func4, Tryz.ntmps4
    go_upto_region 8 with (first | (go_at_call 5; go_loud (refine HAW.out.mono ?_; rintro e w1 ⟨rfl, hb⟩; have HB := Ai.Aside.mk hb; clear hb)) | (go_at_call 14; go_loud (refine (HRC0.out _ HB.out).mono ?_; rintro e w2 ⟨v2, er, rfl, hb2, hok, -⟩; obtain ⟨rfl, hown⟩ := hok HRO.out; have HO2 := Ai.Aside.mk hown; have HB2 := Ai.Aside.mk (HB.out.trans (hb2.mono HB.out.size)); clear hb2 hok hown)))
    have ho2 := HO2.out
    rw [← HNB.out] at ho2
    have hbts := own_bts2 ho2 (fun y hy => by have := HBY.out (y : Int) (List.mem_map.2 ⟨y, hy, rfl⟩); omega)
    rw [HNL.out] at ho2 hbts
    obtain ⟨g, c2, rfl⟩ := own_some ho2
    have hcap : L + 1 ≤ c2 := by
      rcases ho2.2 with ⟨k1, _⟩ | ⟨g', cap', cur, k1, _, _, k2, _⟩
      · cases k1
      · cases k1; exact k2
    have HCUT := Ai.Aside.mk (cut15_ok3 w2 1 9 g 0 (L + 1) c2 (natI nb) (hbts g c2 rfl) HBL.out (by omega) (by omega) hcap)
    clear ho2 hbts HO2 HRC0 HAW HB
    go_upto_region 12 with (first | (go_at_call 15; go_loud (refine HCUT.out.mono ?_; rintro e w3 ⟨v3, rfl, hown, hb3⟩; have HO3 := Ai.Aside.mk hown; have HB3 := Ai.Aside.mk (HB2.out.trans (hb3.mono HB2.out.size)); clear hown hb3)))
    clear HCUT HB2 hcap
    have ho3 := HO3.out
    rw [HT.out, Int.toNat_natCast] at ho3
    obtain ⟨T', hT'⟩ : ∃ T', T = T' + 1 := ⟨T - 1, by omega⟩
    rw [hT'] at ho3
    obtain ⟨gl, cl, rfl⟩ := own_some ho3
    rw [← hT'] at ho3 ⊢
    have HPS := Ai.Aside.mk (PgsAt.of_own ho3 (fun p hp => by
      obtain ⟨i, -, rfl⟩ := List.mem_map.1 hp
      exact (lcut_ok HBY.out).1))
    clear ho3 HO3 hT'
    go_upto_region 13 with (fail)
    go_loopw [10, 11] (fun v10 v11 wr => ∃ (i j : Nat), i + j = T ∧ v11 = .int .i64 ((i : Int) - 1) ∧ Ai.Aside (wr.ownsRow w3.heap.size 55 39 v10 j (pgsV ((desc T j).map (lcutP 3 1 9 (natI nb)))) ∧ Below w3.heap.size w3 wr)) (fun _ v11 _ => (intOf v11 + 1).toNat)
    case atStart => exact ⟨T, 0, by omega, rfl, ⟨World.ownsRow_nil _ _ _ _, Below.refl _ _⟩⟩
    case round =>
      obtain ⟨i, j, hij, rfl, HR⟩ := hrel
      by_cases hi0 : 0 < i
      · obtain ⟨k, rfl⟩ : ∃ k, i = k + 1 := ⟨i - 1, by omega⟩
        have hk1 : ((k + 1 : Nat) : Int) - 1 = (k : Int) := by omega
        rw [hk1]
        have hkT : k < T := by omega
        have hok := lcut_pgok (bs := natI nb) (i := k) HBY.out (by rw [HBL.out]; omega) (by omega)
        have HPA := Ai.Aside.mk ((HPS.out k (lcutP 3 1 9 (natI nb) k) (cut_get hkT)).below HR.out.2)
        have HLN2 := Ai.Aside.mk (show Pg.zero.cells.length = (lcutP 3 1 9 (natI nb) k).cells.length by rw [pg_len hok.len]; rfl)
        have HSZ := Ai.Aside.mk (show (Tryz.prog.info? 55).map (·.size) = some (lcutP 3 1 9 (natI nb) k).cells.length by rw [pg_len hok.len]; exact pgSize)
        have HON := Ai.Aside.mk (pg_one (lcutP 3 1 9 (natI nb) k))
        have HL39 := Ai.Aside.mk (pg_len hok.len)
        have HDS := Ai.Aside.mk (show pgsV ((desc T (j + 1)).map (lcutP 3 1 9 (natI nb))) = pgsV ((desc T j).map (lcutP 3 1 9 (natI nb))) ++ (lcutP 3 1 9 (natI nb) k).cells by
          rw [desc_succ, show T - 1 - j = k by omega, List.map_append]; exact pgsV_snoc _ _)
        obtain ⟨vs, hvs⟩ : ∃ vs, vs = (lcutP 3 1 9 (natI nb) k).cells := ⟨_, rfl⟩
        have HRG := Ai.Aside.mk (show wr.rangeAt gl (k * 39) vs by rw [hvs]; exact HPA.out.2)
        have HENC := Ai.Aside.mk (fun W => enc_vs W (lcutP 3 1 9 (natI nb) k) vs hok hvs)
        have HDEC := Ai.Aside.mk (fun W g hg => dec_vs W g (lcutP 3 1 9 (natI nb) k) vs hok hvs hg)
        rw [← hvs] at HLN2 HSZ HON HL39 HDS
        clear hvs hok hk1 HPA
        go_upto_region 17 with (first | ((with_reducible refine wpList_load_mid rfl 55 _ rfl gl (k * 39) ?_ vs _ HRG.out Tryz.underlying55 ?_ HSZ.out ?_); (kernel_rfl); (rfl)) | (go_at_call 16; go_loud (refine (HENC.out _).mono ?_; rintro e w4 ⟨g5, rfl, hrow, hb4⟩; have HR4 := Ai.Aside.mk hrow; have HB4 := Ai.Aside.mk hb4; clear hrow hb4)) | (go_at_call 17; go_loud (refine (HDEC.out _ _ HR4.out).mono ?_; rintro e w5 ⟨rfl, hb5⟩; have HB5 := Ai.Aside.mk (HB4.out.trans (hb5.mono HB4.out.size)); clear hb5)) | ((with_reducible refine wpList_alloc_row rfl 55 rfl _ (alloc55 w5) ?_); intro w6 hrow hbel; have HQ := Ai.Aside.mk hrow; have HB6 := Ai.Aside.mk hbel; clear hrow hbel) | ((with_reducible refine wpList_store_row rfl 55 _ _ rfl w5.heap.size vs _ ?_ ?_ HQ.out HLN2.out HSZ.out HON.out ?_); (kernel_rfl); (kernel_rfl); intro w7 hrow hmod; have HQ7 := Ai.Aside.mk hrow; have HM7 := Ai.Aside.mk hmod; clear hrow hmod))
        obtain ⟨q, hq⟩ : ∃ q, q = w5.heap.size := ⟨_, rfl⟩
        rw [← hq] at HQ7 HM7
        rw [← hq]
        have hb6 := HB5.out.trans (HB6.out.mono HB5.out.size)
        have hO6 := own_below HR.out.1 hb6
        have hqO : ∀ b, u10.ownBlock = some b → b ≠ q := fun b e => by have h1 := (HR.out.1.lt b e).2; have h2 := HB5.out.size; omega
        have HO7 := Ai.Aside.mk (own_mod hO6 HM7.out (fun e => hqO q e rfl))
        have HW7 := Ai.Aside.mk (HM7.out.below (HR.out.2.trans (hb6.mono HR.out.2.size)) (Nat.le_trans HR.out.2.size hb6.size) (by have h1 := HR.out.2.size; have h2 := HB5.out.size; omega))
        clear HQ HB5 HB4 HB6 HM7 HR4 HRG HENC HDEC HR hq hb6 hO6 hqO HLN2
        go_wp2_with (first | ((with_reducible refine wpList_load_mid rfl 55 _ rfl q 0 ?_ vs _ HQ7.out.range Tryz.underlying55 ?_ HSZ.out ?_); (kernel_rfl); (rfl)) | ((with_reducible refine wpList_buildSlice_one rfl 46 _ rfl 55 i0 _ vs Tryz.underlying46 HI.out.1 HI.out.2.1 ?_ ?_ ?_ ?_ ?_); (rw [HI.out.2.2.1, HL39.out]); (rw [HL39.out]; decide); (rw [HL39.out]; decide); (kernel_rfl); intro w8 hrow hbel; have HR8 := Ai.Aside.mk hrow; have HB8 := Ai.Aside.mk hbel; clear hrow hbel) | (at_builtin; go_loud (refine wpList_append_own _ rfl (.tmp 82) (.tmp 84) 46 rfl w3.heap.size 55 i0 (.agg Pg.zero.cells.toArray) 39 64 Tryz.underlying46 HI.out.1 HI.out.2.1 HI.out.2.2.1 HI.out.2.2.2 rfl (by decide) u10 j (pgsV ((desc T j).map (lcutP 3 1 9 (natI nb)))) (by kernel_rfl) (own_below HO7.out HB8.out) ⟨w7.heap.size, 0, none⟩ 1 1 vs (by kernel_rfl) (by rw [HL39.out]) (fun jj u hj => by rw [add_addr, Nat.zero_add]; exact HR8.out.cell hj) HON.out (by unfold maxLen; omega) (by omega) (by have h1 := HW7.out.size; have h2 := HB8.out.size; omega) ?_; intro v' w9 hown9 hgrow9 hnil9; have HO9 := Ai.Aside.mk hown9; have HG9 := Ai.Aside.mk hgrow9; clear hown9 hgrow9 hnil9)))
        have HB9 := Ai.Aside.mk ((HW7.out.trans (HB8.out.mono HW7.out.size)).grown HG9.out (Nat.le_trans HW7.out.size HB8.out.size) (fun b hb => (HO7.out.lt b hb).1))
        go_roundw
        case rel => exact ⟨k, j + 1, by omega, by go_num, ⟨by rw [HDS.out]; exact HO9.out, HB9.out⟩⟩
        case measure => simp [intOf]
      · obtain rfl : i = 0 := by omega
        obtain rfl : j = T := by omega
        have hpl : ∀ p ∈ (desc j j).map (lcutP 3 1 9 (natI nb)), p.pay.length = 32 := fun p hp => by
          obtain ⟨i, -, rfl⟩ := List.mem_map.1 hp
          exact (lcut_ok HBY.out).1
        have hown := HR.out.1
        obtain ⟨T', hT'⟩ : ∃ T', j = T' + 1 := ⟨j - 1, by omega⟩
        obtain ⟨gk, ck, hu10⟩ : ∃ gk ck, u10 = .slice (some ⟨gk, 0, none⟩) j ck := by
          have h := hown
          rw [hT'] at h
          obtain ⟨a, b, e⟩ := own_some h
          exact ⟨a, b, by rw [hT']; exact e⟩
        subst hu10
        have HJ := Ai.Aside.mk (join18_ok wr (natI nb) (desc j j) gk j ck j HT.out (by rw [HBL.out]; omega) (by rw [HBL.out]; omega) HBY.out (desc_nodup j) (desc_mem j) (desc_len j j) (by omega) (PgsAt.of_own hown hpl))
        have HW3 := Ai.Aside.mk (HB3.out.trans (HR.out.2.mono HB3.out.size))
        clear hown hpl HR HPS HB3 hT'
        go_upto_region 21 with (first | (go_at_call 18; go_loud (refine HJ.out.mono ?_; rintro e w4 ⟨gs, cs, v4, rfl, hrow, hgs, hown, hb4⟩; have HR4 := Ai.Aside.mk hrow; have HO4 := Ai.Aside.mk hown; have HW4 := Ai.Aside.mk (HW3.out.trans (hb4.mono HW3.out.size)); clear hrow hgs hown hb4)))
        have ho4 := HO4.out
        rw [HBL.out, ← bytesV_natI] at ho4
        have hbts := own_bts2 ho4 (fun y hy => by have := HBY.out (y : Int) (List.mem_map.2 ⟨y, hy, rfl⟩); omega)
        obtain ⟨g4, c4, rfl⟩ := own_some ho4
        have hcap : L + 1 ≤ c4 := by
          rcases ho4.2 with ⟨k1, _⟩ | ⟨g', cap', cur, k1, _, _, k2, _⟩
          · cases k1
          · cases k1; exact k2
        have hbt := hbts g4 c4 rfl
        rw [HNB.out, HLN.out] at hbt
        have HCHG := Ai.Aside.mk (changes_ok w4 g4 0 (L + 1) c4 ops hbt (by rw [← HLN.out, ← HNB.out]; exact HNL.out) hcap (by omega) HRO.out (by rw [← HLN.out]; omega))
        obtain ⟨hgs, k0, k1, k2, k3⟩ := HR4.out
        clear hgs ho4 hbts hbt hcap HJ HO4 HW3
        go_upto_region 24 with (first | (go_at_call 19; go_loud (refine HCHG.out.mono ?_; rintro e w5 ⟨v5, rfl, hown, hb5⟩; have HO5 := Ai.Aside.mk hown; have HW5 := Ai.Aside.mk (HW4.out.trans (hb5.mono HW4.out.size)); clear hown hb5)))
        have hin : ∀ x ∈ ops, inI x.l ∧ inI x.n ∧ inI x.p := fun x hx => by
          have h := HRO.out
          unfold recOk at h
          have h2 := List.all_eq_true.1 h x hx
          simp only [rightOp, decide_eq_true_eq] at h2
          unfold inI
          omega
        obtain ⟨C, cC, hv5, hCacts, -⟩ := own3e HO5.out hin
        rw [← HLN.out] at hv5
        subst hv5
        have HC := Ai.Aside.mk hCacts
        have HA5 := Ai.Aside.mk (HA.out.below HW5.out (Nat.le_refl _))
        have hnA : n = ops.length := HLN.out
        clear k0 k1 k2 k3 hin hCacts HCHG HO5 HW4 HR4
        have HAFF := Ai.Aside.mk (applyT_ok (okT_none N) (by simp; omega) ops)
        have hl0 : (List.replicate N (-1 : Int)).length = N := List.length_replicate
        have HL0 := Ai.Aside.mk hl0
        rw [hl0] at HAFF
        obtain ⟨tb, htb⟩ : ∃ tb, tb = applyT (List.replicate N (-1)) ops := ⟨_, rfl⟩
        rw [← htb] at HAFF
        have HTB := Ai.Aside.mk htb
        obtain ⟨r, hr⟩ : ∃ r, r = tryL N ops := ⟨_, rfl⟩
        have HRR := Ai.Aside.mk hr
        have HNA := Ai.Aside.mk hnA
        have HNN := Ai.Aside.mk hN
        clear htb hr hl0 hnA
        have HNF := Ai.Aside.mk (fun W => snewF_ok W N hN)
        have HNR := Ai.Aside.mk (fun W => snewR_ok W N hN)
        cases isF with
        | true =>
          go_upto_region 26 with (first | (go_at_call 20; go_loud (refine (HNF.out _).mono ?_; rintro e w6 ⟨m, gf, rfl, hm, hf, hb6⟩; have HF6 := Ai.Aside.mk hf; have HB6 := Ai.Aside.mk hb6; have HM6 := Ai.Aside.mk hm; clear HNF hm hf hb6)) | (go_at_call 20; go_loud (refine (HNR.out _).mono ?_; rintro e w7 ⟨mr, t, a, gr, rfl, hb7, h1, h2, h3, h4, hrm⟩; have HR7 := Ai.Aside.mk hrm; have HB7 := Ai.Aside.mk hb7; have HLO := Ai.Aside.mk (And.intro h1 (And.intro h2 (And.intro h3 h4))); clear HNR h1 h2 h3 h4 hrm hb7)))
          have hf7 := HF6.out.below HB7.out
          have hap := apart hf7 (by rw [HL0.out]; exact HNN.out.1) HR7.out
          have hs6 := HB6.out.size
          have hneA : 0 < ops.length → ∀ b off, A = some ⟨b, off, none⟩ → b ≠ m := fun h0 b off e => by
            obtain ⟨b', off', e', hlt, -⟩ := HA5.out.2 h0
            rw [e] at e'; cases e'
            have := HM6.out; omega
          have hA7 := HA5.out.below (HB6.out.trans (HB7.out.mono HB6.out.size)) (Nat.le_refl _)
          have hC7 := HC.out.below (HB6.out.trans (HB7.out.mono HB6.out.size)) (Nat.le_refl _)
          have hneC : 0 < ops.length → ∀ b off, C = some ⟨b, off, none⟩ → b < w5.heap.size := fun h0 b off e => by
            obtain ⟨b', off', e', hlt, -⟩ := HC.out.2 h0
            rw [e] at e'; cases e'; exact hlt
          have HFA := Ai.Aside.mk (fapply_ok w7 m gf N (List.replicate N (-1)) hf7 (okT_none N) (by rw [HL0.out]; exact HNN.out) A capA ops hA7 (by rw [← HNA.out]; omega) hneA)
          rw [HL0.out, ← HTB.out, ← HRR.out, ← HNA.out] at HFA
          have HAP := Ai.Aside.mk hap
          have HC7 := Ai.Aside.mk hC7
          have HNC := Ai.Aside.mk hneC
          have HW7 := Ai.Aside.mk (HW5.out.trans ((HB6.out.trans (HB7.out.mono HB6.out.size)).mono HW5.out.size))
          have HS5 := Ai.Aside.mk (show w.heap.size ≤ w5.heap.size ∧ w5.heap.size ≤ m ∧ w5.heap.size ≤ t ∧ w5.heap.size ≤ a ∧ w5.heap.size ≤ gr from ⟨HW5.out.size, HM6.out, by have := HLO.out; omega, by have := HLO.out; omega, by have := HLO.out; omega⟩)
          clear hf7 hap hs6 hneA hA7 hC7 hneC HA5 HC
          go_upto_region 29 with (first | (go_at_call 21; go_loud (refine HFA.out.mono ?_; rintro e w8 ⟨gf2, cf2, rfl, hmod, hfl⟩; have HM8 := Ai.Aside.mk hmod; have HF8 := Ai.Aside.mk hfl; clear hmod hfl)))
          have hr8 := HR7.out.kept HM8.out HAP.out.1
          have hC8 := acts_mod2 HC7.out HM8.out (fun h0 b off e => by have h1 := HNC.out h0 b off e; have h2 := HS5.out; omega)
          have HRA := Ai.Aside.mk (rapply_ok w8 mr t a gr (fresh 512) .nil (List.replicate N (-1)) (by rw [HL0.out]; exact hr8) (twin_new N) (okT_none N) (by rw [HL0.out]; exact HNN.out) C cC ops hC8 (by rw [← HNA.out]; omega) (fun h0 b off e => by have h1 := HNC.out h0 b off e; have h2 := HS5.out; unfold TS; omega))
          rw [HL0.out, ← HTB.out, ← HRR.out, ← HNA.out] at HRA
          have HAP8 := Ai.Aside.mk (apart HF8.out (by rw [HAFF.out.1]; exact HNN.out.1) hr8)
          have HW8 := Ai.Aside.mk (HM8.out.below HW7.out HW7.out.size (by have := HS5.out; omega))
          clear hr8 hC8 HFA HC7 HAP
          go_upto_region 30 with (first | (go_at_call 21; go_loud (refine HRA.out.mono ?_; rintro e w9 ⟨rfl, hmodb, A9, T9, hrm, htw⟩; have HM9 := Ai.Aside.mk hmodb; have HR9 := Ai.Aside.mk hrm; have HT9 := Ai.Aside.mk htw; clear hmodb hrm htw)))
          have HF9 := Ai.Aside.mk (flat_kept HF8.out HM9.out HAP8.out.1.2 HAP8.out.2.2)
          have HW9 := Ai.Aside.mk (modB_below HM9.out HW8.out (by have := HW8.out.size; omega) (fun k hk => by have h1 := HS5.out; unfold TS at hk; omega))
          have HTL := Ai.Aside.mk HAFF.out.1
          obtain ⟨rs, hrs⟩ : ∃ rs, rs = runsTo tb tb.length := ⟨_, rfl⟩
          have HFORM := Ai.Aside.mk (show formRuns rs by rw [hrs]; exact runs_form HAFF.out.2 (by rw [HAFF.out.1]; exact HNN.out.2))
          have HIN := Ai.Aside.mk (show ∀ x ∈ rs, inI x.l ∧ inI x.n ∧ inI x.p by rw [hrs]; exact num_in (num_tab HAFF.out.2) (by rw [HAFF.out.1]; have := HNN.out.2; omega))
          have HRL2 := Ai.Aside.mk (show rs.length ≤ 64 by rw [hrs]; have h1 := runsTo_length tb tb.length; have h2 := HAFF.out.1; have h3 := HNN.out.2; omega)
          have HRL := Ai.Aside.mk (show rs.length ≤ 512 by have := HRL2.out; omega)
          have HRS := Ai.Aside.mk hrs
          clear hrs
          have HSM := Ai.Aside.mk (sameFR_ok w9 m gf2 cf2 mr t a gr A9 T9 tb HF9.out (by rw [HTL.out]; exact HR9.out) HT9.out HAFF.out.2 (by rw [HTL.out]; exact HNN.out.2))
          have hrr : (r == r) = true := by simp
          go_upto_region 32 with (first | (go_at_call 22; go_loud (refine HSM.out.mono ?_; rintro e w10 ⟨rfl, hb10⟩; have HB10 := Ai.Aside.mk hb10; clear hb10)))
          have HW10 := Ai.Aside.mk (HW9.out.trans (HB10.out.mono HW9.out.size))
          have HXR := Ai.Aside.mk (fun W (hW : Below w10.heap.size w10 W) => show Calls Tryz.prog 43 #[.pointer (some ⟨m, 0, none⟩)] W (AllPost W rs) by
            have h := runs_ok W m 512 gf2 cf2 tb ((HF9.out.below HB10.out).below hW) HAFF.out.2.ok (by have h1 := HTL.out; have h2 := HNN.out.2; omega)
            rw [← HRS.out] at h
            exact h)
          rcases runs_ok_or HFORM.out with hgood | hbad
          · have HGOOD := Ai.Aside.mk hgood
            clear hgood
            go_upto_region 33 with (first | (go_at_call 43; go_loud (refine (HXR.out _ (Below.refl _ _)).mono ?_; rintro e w11 ⟨v11, rfl, hown, hb11⟩; obtain ⟨A11, c11, rfl, hacts, -⟩ := own3 hown HIN.out; have HB11 := Ai.Aside.mk hb11; have HSN := Ai.Aside.mk (snapshot_ok w11 A11 c11 rs hacts HRL.out HGOOD.out); clear hown hacts hb11)) | (go_at_call 11; go_loud (refine HSN.out.mono ?_; rintro e w12 ⟨v12, rfl, hb12, hown⟩; have HB12 := Ai.Aside.mk (HB11.out.trans (hb12.mono HB11.out.size)); have HO12 := Ai.Aside.mk hown; clear hb12 hown)))
            have ho := HO12.out
            have hpos : 1 ≤ (enc rs.length ++ snapB 0 0 rs).length := by rw [List.length_append]; have := enc_pos rs.length; omega
            obtain ⟨L2, hL2e⟩ : ∃ L2, (enc rs.length ++ snapB 0 0 rs).length = L2 + 1 := ⟨_, (Nat.sub_add_cancel hpos).symm⟩
            have hbts := own_bts2 ho (fun y hy => by
              rw [List.mem_append] at hy
              rcases hy with hy | hy
              · exact enc_le _ _ hy
              · exact snapB_le _ _ _ _ hy)
            rw [hL2e] at ho hbts
            obtain ⟨g12, c12, rfl⟩ := own_some ho
            have hcap2 : L2 + 1 ≤ c12 := by
              rcases ho.2 with ⟨k1, _⟩ | ⟨g', cap', cur, k1, _, _, k2, _⟩
              · cases k1
              · cases k1; exact k2
            have hsh := snap_short HGOOD.out (by have := HRL2.out; omega)
            have HRD := Ai.Aside.mk (readruns_ok w12 g12 0 (L2 + 1) c12 rs (hbts g12 c12 rfl) hL2e hcap2 (by omega) HGOOD.out HRL.out)
            clear ho hbts hcap2 hsh hpos HO12 HSN
            go_wp2_with (first | (go_at_call 23; go_loud (refine HRD.out.mono ?_; rintro e w13 ⟨v13, rfl, hown, hb13⟩; obtain ⟨A13, c13, rfl, hacts, -⟩ := own3 hown HIN.out; have HB13 := Ai.Aside.mk (HB12.out.trans (hb13.mono HB12.out.size)); have HA13 := Ai.Aside.mk hacts; clear hown hacts hb13)) | (go_at_call 43; go_loud (refine (HXR.out _ HB13.out).mono ?_; rintro e w14 ⟨v14, rfl, hown, hb14⟩; obtain ⟨A14, c14, rfl, hacts, -⟩ := own3 hown HIN.out; have HB14 := Ai.Aside.mk (HB13.out.trans (hb14.mono HB13.out.size)); have HSA := Ai.Aside.mk (rsame_ok w14 A13 A14 c13 c14 rs (HA13.out.below hb14 (Nat.le_refl _)) hacts HRL.out); clear hown hacts hb14)) | (go_at_call 24; go_loud (refine HSA.out.mono ?_; rintro e w15 ⟨rfl, q15, rfl⟩)))
            go_ret
            exact ⟨rfl, below_drewN (HW10.out.trans (HB14.out.mono HW10.out.size)) _⟩
          · have HBADR := Ai.Aside.mk hbad
            clear hbad
            go_wp2_with (first | (go_at_call 43; go_loud (refine (HXR.out _ (Below.refl _ _)).mono ?_; rintro e w11 ⟨v11, rfl, hown, hb11⟩; obtain ⟨A11, c11, rfl, hacts, -⟩ := own3 hown HIN.out; have HB11 := Ai.Aside.mk hb11; have HSN := Ai.Aside.mk (snapbad_ok w11 A11 c11 rs hacts HRL.out HFORM.out HBADR.out); clear hown hacts hb11)) | (go_at_call 11; go_loud (refine HSN.out.mono ?_; rintro e w12 ⟨rfl, hb12⟩; have HB12 := Ai.Aside.mk (HB11.out.trans (hb12.mono HB11.out.size)); clear hb12)) | (go_at_call 23; go_loud (refine (readnil_ok _).mono ?_; rintro e w13 ⟨rfl, hb13⟩; have HB13 := Ai.Aside.mk (HB12.out.trans (hb13.mono HB12.out.size)); clear hb13)))
            go_ret
            exact ⟨rfl, HW10.out.trans (HB13.out.mono HW10.out.size)⟩
        | false =>
          go_upto_region 26 with (first | (go_at_call 20; go_loud (refine (HNR.out _).mono ?_; rintro e w6 ⟨mr, t, a, gr, rfl, hb6, h1, h2, h3, h4, hrm⟩; have HR6 := Ai.Aside.mk hrm; have HB6 := Ai.Aside.mk hb6; have HLO := Ai.Aside.mk (And.intro h1 (And.intro h2 (And.intro h3 h4))); clear HNR h1 h2 h3 h4 hrm hb6)) | (go_at_call 20; go_loud (refine (HNF.out _).mono ?_; rintro e w7 ⟨m, gf, rfl, hm, hf, hb7⟩; have HF7 := Ai.Aside.mk hf; have HB7 := Ai.Aside.mk hb7; have HM7 := Ai.Aside.mk hm; clear HNF hm hf hb7)))
          have hr7 := HR6.out.below HB7.out
          have hap := apart HF7.out (by rw [HL0.out]; exact HNN.out.1) hr7
          have hs6 := HB6.out.size
          have hneA : 0 < ops.length → ∀ b off, A = some ⟨b, off, none⟩ → ¬ TS t a gr b := fun h0 b off e => by
            obtain ⟨b', off', e', hlt, -⟩ := HA5.out.2 h0
            rw [e] at e'; cases e'
            have := HLO.out; unfold TS; omega
          have hA7 := HA5.out.below (HB6.out.trans (HB7.out.mono HB6.out.size)) (Nat.le_refl _)
          have hC7 := HC.out.below (HB6.out.trans (HB7.out.mono HB6.out.size)) (Nat.le_refl _)
          have hneC : 0 < ops.length → ∀ b off, C = some ⟨b, off, none⟩ → b < w5.heap.size := fun h0 b off e => by
            obtain ⟨b', off', e', hlt, -⟩ := HC.out.2 h0
            rw [e] at e'; cases e'; exact hlt
          have HRA := Ai.Aside.mk (rapply_ok w7 mr t a gr (fresh 512) .nil (List.replicate N (-1)) (by rw [HL0.out]; exact hr7) (twin_new N) (okT_none N) (by rw [HL0.out]; exact HNN.out) A capA ops hA7 (by rw [← HNA.out]; omega) hneA)
          rw [HL0.out, ← HTB.out, ← HRR.out, ← HNA.out] at HRA
          have HAP := Ai.Aside.mk hap
          have HC7 := Ai.Aside.mk hC7
          have HNC := Ai.Aside.mk hneC
          have HW7 := Ai.Aside.mk (HW5.out.trans ((HB6.out.trans (HB7.out.mono HB6.out.size)).mono HW5.out.size))
          have HS5 := Ai.Aside.mk (show w.heap.size ≤ w5.heap.size ∧ w5.heap.size ≤ m ∧ w5.heap.size ≤ t ∧ w5.heap.size ≤ a ∧ w5.heap.size ≤ gr from ⟨HW5.out.size, by have := HM7.out; omega, by have := HLO.out; omega, by have := HLO.out; omega, by have := HLO.out; omega⟩)
          clear hr7 hap hs6 hneA hA7 hC7 hneC HA5 HC
          go_upto_region 29 with (first | (go_at_call 21; go_loud (refine HRA.out.mono ?_; rintro e w8 ⟨rfl, hmodb, A8, T8, hrm, htw⟩; have HM8 := Ai.Aside.mk hmodb; have HR8 := Ai.Aside.mk hrm; have HT8 := Ai.Aside.mk htw; clear hmodb hrm htw)))
          have hf8 := flat_kept HF7.out HM8.out HAP.out.1.2 HAP.out.2.2
          have hC8 := acts_modB2 HC7.out HM8.out (fun h0 b off e => by have h1 := HNC.out h0 b off e; have h2 := HS5.out; unfold TS; omega)
          have HFA := Ai.Aside.mk (fapply_ok w8 m gf N (List.replicate N (-1)) hf8 (okT_none N) (by rw [HL0.out]; exact HNN.out) C cC ops hC8 (by rw [← HNA.out]; omega) (fun h0 b off e => by have h1 := HNC.out h0 b off e; have h2 := HS5.out; omega))
          rw [HL0.out, ← HTB.out, ← HRR.out, ← HNA.out] at HFA
          have HW8 := Ai.Aside.mk (modB_below HM8.out HW7.out HW7.out.size (fun k hk => by have h1 := HS5.out; unfold TS at hk; omega))
          clear hf8 hC8 HRA HC7
          go_upto_region 30 with (first | (go_at_call 21; go_loud (refine HFA.out.mono ?_; rintro e w9 ⟨gf2, cf2, rfl, hmod, hfl⟩; have HM9 := Ai.Aside.mk hmod; have HF9 := Ai.Aside.mk hfl; clear hmod hfl)))
          have HR9 := Ai.Aside.mk (HR8.out.kept HM9.out HAP.out.1)
          have HW9 := Ai.Aside.mk (HM9.out.below HW8.out HW8.out.size (by have := HS5.out; omega))
          have HTL := Ai.Aside.mk HAFF.out.1
          obtain ⟨rs, hrs⟩ : ∃ rs, rs = runsTo tb tb.length := ⟨_, rfl⟩
          have HFORM := Ai.Aside.mk (show formRuns rs by rw [hrs]; exact runs_form HAFF.out.2 (by rw [HAFF.out.1]; exact HNN.out.2))
          have HIN := Ai.Aside.mk (show ∀ x ∈ rs, inI x.l ∧ inI x.n ∧ inI x.p by rw [hrs]; exact num_in (num_tab HAFF.out.2) (by rw [HAFF.out.1]; have := HNN.out.2; omega))
          have HRL2 := Ai.Aside.mk (show rs.length ≤ 64 by rw [hrs]; have h1 := runsTo_length tb tb.length; have h2 := HAFF.out.1; have h3 := HNN.out.2; omega)
          have HRL := Ai.Aside.mk (show rs.length ≤ 512 by have := HRL2.out; omega)
          have HRS := Ai.Aside.mk hrs
          clear hrs
          have HSM := Ai.Aside.mk (sameRF_ok w9 m gf2 cf2 mr t a gr A8 T8 tb HF9.out (by rw [HTL.out]; exact HR9.out) HT8.out HAFF.out.2 (by rw [HTL.out]; exact HNN.out.2))
          have hrr : (r == r) = true := by simp
          go_upto_region 32 with (first | (go_at_call 22; go_loud (refine HSM.out.mono ?_; rintro e w10 ⟨rfl, hb10⟩; have HB10 := Ai.Aside.mk hb10; clear hb10)))
          have HW10 := Ai.Aside.mk (HW9.out.trans (HB10.out.mono HW9.out.size))
          have HXR := Ai.Aside.mk (fun W (hW : Below w10.heap.size w10 W) => show Calls Tryz.prog 213 #[.pointer (some ⟨mr, 0, none⟩)] W (AllPost W rs) by
            have h := rruns_ok W mr t a gr N A8 T8 tb ((HR9.out.below HB10.out).below hW) HT8.out HAFF.out.2
            rw [← HRS.out] at h
            exact h)
          rcases runs_ok_or HFORM.out with hgood | hbad
          · have HGOOD := Ai.Aside.mk hgood
            clear hgood
            go_upto_region 33 with (first | (go_at_call 213; go_loud (refine (HXR.out _ (Below.refl _ _)).mono ?_; rintro e w11 ⟨v11, rfl, hown, hb11⟩; obtain ⟨A11, c11, rfl, hacts, -⟩ := own3 hown HIN.out; have HB11 := Ai.Aside.mk hb11; have HSN := Ai.Aside.mk (snapshot_ok w11 A11 c11 rs hacts HRL.out HGOOD.out); clear hown hacts hb11)) | (go_at_call 11; go_loud (refine HSN.out.mono ?_; rintro e w12 ⟨v12, rfl, hb12, hown⟩; have HB12 := Ai.Aside.mk (HB11.out.trans (hb12.mono HB11.out.size)); have HO12 := Ai.Aside.mk hown; clear hb12 hown)))
            have ho := HO12.out
            have hpos : 1 ≤ (enc rs.length ++ snapB 0 0 rs).length := by rw [List.length_append]; have := enc_pos rs.length; omega
            obtain ⟨L2, hL2e⟩ : ∃ L2, (enc rs.length ++ snapB 0 0 rs).length = L2 + 1 := ⟨_, (Nat.sub_add_cancel hpos).symm⟩
            have hbts := own_bts2 ho (fun y hy => by
              rw [List.mem_append] at hy
              rcases hy with hy | hy
              · exact enc_le _ _ hy
              · exact snapB_le _ _ _ _ hy)
            rw [hL2e] at ho hbts
            obtain ⟨g12, c12, rfl⟩ := own_some ho
            have hcap2 : L2 + 1 ≤ c12 := by
              rcases ho.2 with ⟨k1, _⟩ | ⟨g', cap', cur, k1, _, _, k2, _⟩
              · cases k1
              · cases k1; exact k2
            have hsh := snap_short HGOOD.out (by have := HRL2.out; omega)
            have HRD := Ai.Aside.mk (readruns_ok w12 g12 0 (L2 + 1) c12 rs (hbts g12 c12 rfl) hL2e hcap2 (by omega) HGOOD.out HRL.out)
            clear ho hbts hcap2 hsh hpos HO12 HSN
            go_wp2_with (first | (go_at_call 23; go_loud (refine HRD.out.mono ?_; rintro e w13 ⟨v13, rfl, hown, hb13⟩; obtain ⟨A13, c13, rfl, hacts, -⟩ := own3 hown HIN.out; have HB13 := Ai.Aside.mk (HB12.out.trans (hb13.mono HB12.out.size)); have HA13 := Ai.Aside.mk hacts; clear hown hacts hb13)) | (go_at_call 213; go_loud (refine (HXR.out _ HB13.out).mono ?_; rintro e w14 ⟨v14, rfl, hown, hb14⟩; obtain ⟨A14, c14, rfl, hacts, -⟩ := own3 hown HIN.out; have HB14 := Ai.Aside.mk (HB13.out.trans (hb14.mono HB13.out.size)); have HSA := Ai.Aside.mk (rsame_ok w14 A13 A14 c13 c14 rs (HA13.out.below hb14 (Nat.le_refl _)) hacts HRL.out); clear hown hacts hb14)) | (go_at_call 24; go_loud (refine HSA.out.mono ?_; rintro e w15 ⟨rfl, q15, rfl⟩)))
            go_ret
            exact ⟨rfl, below_drewN (HW10.out.trans (HB14.out.mono HW10.out.size)) _⟩
          · have HBADR := Ai.Aside.mk hbad
            clear hbad
            go_wp2_with (first | (go_at_call 213; go_loud (refine (HXR.out _ (Below.refl _ _)).mono ?_; rintro e w11 ⟨v11, rfl, hown, hb11⟩; obtain ⟨A11, c11, rfl, hacts, -⟩ := own3 hown HIN.out; have HB11 := Ai.Aside.mk hb11; have HSN := Ai.Aside.mk (snapbad_ok w11 A11 c11 rs hacts HRL.out HFORM.out HBADR.out); clear hown hacts hb11)) | (go_at_call 11; go_loud (refine HSN.out.mono ?_; rintro e w12 ⟨rfl, hb12⟩; have HB12 := Ai.Aside.mk (HB11.out.trans (hb12.mono HB11.out.size)); clear hb12)) | (go_at_call 23; go_loud (refine (readnil_ok _).mono ?_; rintro e w13 ⟨rfl, hb13⟩; have HB13 := Ai.Aside.mk (HB12.out.trans (hb13.mono HB12.out.size)); clear hb13)))
            go_ret
            exact ⟨rfl, HW10.out.trans (HB13.out.mono HW10.out.size)⟩
end Lo
end Go.Proofs.YtjmhkcfdmcjilaaGreat
