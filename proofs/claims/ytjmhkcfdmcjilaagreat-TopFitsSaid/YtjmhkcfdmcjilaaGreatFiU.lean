/-
  Walk: TopFits.
-/
import Derived.Test.YtjmhkcfdmcjilaaGreatFiT
import Derived.Test.YtjmhkcfdmcjilaaGreatAiX
import Derived.Deep.DeepCutAuto
set_option linter.unusedVariables false
set_option linter.unusedSimpArgs false
namespace Go.Proofs.YtjmhkcfdmcjilaaGreat
namespace Fi
open Go.RowKit Ai

/-- What the runs of a folded table are worth to the rest. -/
def Folded (c : Cfg) (ys : List Op3) : Prop :=
  (∀ x ∈ ys, 0 ≤ x.l ∧ 0 ≤ x.n ∧ x.l + x.n ≤ 512) ∧ (∀ x ∈ ys, 0 ≤ x.n ∧ x.n ≤ 512) ∧
  ((ys.length : Int) ≤ c.m → endsB ys c.c = true → insideB ys (c.b * c.p) = true →
    okRuns ys ∧ pagesV ((enc ys.length ++ snapB 0 0 ys).length : Nat) ≤ snapP c)

def FoldPost (c : Cfg) (w : World) (e : Ending) (w' : World) : Prop :=
  ∃ A cap ys, e = .returned (.slice A (List.length ys) cap) ∧ Folded c ys ∧ Acts3 w' A ys ∧ Below w.heap.size w w'

theorem fold_post (w : World) (A : Option Addr) (cap : Nat) (xs : List Op3) (hA : Acts3 w A xs) (hn : xs.length ≤ 300) (c : Cfg) (hc : c.Span) :
    Calls Tryz.prog 8 #[.slice A xs.length cap] w (FoldPost c w) := by
  refine (fold_ok w A cap xs hA hn).mono ?_
  rintro e w' ⟨v, t, rfl, hok, hl, hown, hb⟩
  have inv := runInv hok t.length (Nat.le_refl _)
  have hS := fun h1 h2 h3 => snap_fits hok hl hc h1 h2 h3
  have he : ∀ x ∈ runsTo t t.length, 0 ≤ x.l ∧ 1 ≤ x.n ∧ x.l + x.n ≤ 512 ∧ 0 ≤ x.p ∧ x.p ≤ 2097152 := fun x hx => by
    have := inv.each x hx
    omega
  obtain ⟨ys, hys⟩ : ∃ ys, ys = runsTo t t.length := ⟨_, rfl⟩
  rw [← hys] at hS he hown
  obtain ⟨A', cap', rfl, hacts⟩ := own_acts hown (fun x hx => by
    have := he x hx
    simp only [inI]
    omega)
  exact ⟨A', cap', ys, rfl, ⟨(fun x hx => by have := he x hx; omega), (fun x hx => by have := he x hx; omega), hS⟩, hacts, hb⟩

theorem opsM_le {c : Cfg} (hc : c.Span) : opsM c ≤ 136 := by
  simp only [Cfg.Span] at hc
  have hu : (c.c + c.p - 1) / c.p ≤ 128 := by
    have : (c.c + c.p - 1) / c.p < 129 := Int.ediv_lt_of_lt_mul (by omega) (by omega)
    omega
  unfold opsM
  split <;> omega

theorem own_any {w : World} {base n : Nat} {v : Value} {xs : List Value} (h : w.ownsRow base 5 1 v n xs) : ∃ A cap, v = .slice A n cap := by
  rcases h.2 with ⟨rfl, h0⟩ | ⟨g, cap, cur, rfl, _⟩
  · exact ⟨none, 0, by rw [h0]⟩
  · exact ⟨_, cap, rfl⟩

set_option maxHeartbeats 4000000 in
set_option maxRecDepth 100000 in
theorem fits_ok (c : Cfg) (w : World) (A : Option Addr) (cap : Nat) (xs : List Op3) (hA : Acts3 w A xs) (B : Option Addr) (capB : Nat) (ops : List Op3) (hB : Acts3 w B ops) :
    Calls Tryz.prog 3 #[c.V, .slice A xs.length cap, .slice B ops.length capB] w fun e w' => e = .returned (.bool true) ∧ Below w.heap.size w w' := by
  have HB0 := Ai.Aside.mk ((Below.refl w.heap.size w).alloc (Nat.le_refl _) (.cells #[.int .i64 c.b, .int .i64 c.p, .int .i64 c.c, .int .i64 c.s, .int .i64 c.m, .int .i64 c.x, .bool c.f] 23))
  have HC0 := Ai.Aside.mk (show CfgAt (w.alloc (.cells #[.int .i64 c.b, .int .i64 c.p, .int .i64 c.c, .int .i64 c.s, .int .i64 c.m, .int .i64 c.x, .bool c.f] 23)) w.heap.size c from heap_alloc_new w _)
  have HG := Ai.Aside.mk (good_ok c)
  have HSZ := Ai.Aside.mk (of7_ok c)
  have HFO : Ai.Aside (∀ W, Below w.heap.size w W → xs.length ≤ 300 → c.Span → Calls Tryz.prog 8 #[.slice A xs.length cap] W (FoldPost c W)) := ⟨fun W hW hn hc => fold_post W A cap xs (hA.below hW (Nat.le_refl _)) hn c hc⟩
  have HA := Ai.Aside.mk hA
  have HOB := Ai.Aside.mk hB
  unfold Cfg.V at HG HSZ ⊢
  obtain ⟨n, hln⟩ : ∃ n, n = xs.length := ⟨_, rfl⟩
  obtain ⟨m, hlm⟩ : ∃ m, m = ops.length := ⟨_, rfl⟩
  rw [← hln, ← hlm]
  rw [← hln] at HFO
  have HLN := Ai.Aside.mk hln
  have HLM := Ai.Aside.mk hlm
  clear hA hB hln hlm
  by_cases hn : n ≤ 300
  · go_enter Tryz.func3, Tryz.ntmps3
    go_upto_region 9 with (first | (go_at_call 5; go_loud (refine (awake_ok _).mono ?_; rintro e w1 ⟨rfl, hb⟩; have HC := Ai.Aside.mk (HC0.out.below hb); have HB := Ai.Aside.mk (HB0.out.trans (hb.mono HB0.out.size)); clear hb HC0 HB0; obtain ⟨c0, c1, c2, c3, c4, c5, c6⟩ := HC.out.facts)) | (go_at_call 6; go_loud (refine (HG.out _).mono ?_; rintro e w2 ⟨r, rfl, hr, hb⟩; have HC1 := Ai.Aside.mk (HC.out.below hb); have HB1 := Ai.Aside.mk (HB.out.trans (hb.mono HB.out.size)); have HR := Ai.Aside.mk hr; clear hb HC HB hr c0 c1 c2 c3 c4 c5 c6; obtain ⟨c0, c1, c2, c3, c4, c5, c6⟩ := HC1.out.facts; cases r)))
    · go_wp2_with fail
      go_ret
      exact ⟨rfl, HB1.out⟩
    · have HS := Ai.Aside.mk (show c.Span from HR.out (by trivial))
      go_upto_region 9 with (first | (go_at_call 7; go_loud (refine (HSZ.out HS.out _).mono ?_; rintro e w3 ⟨t, rfl, ht1, ht2, ht4, hb⟩; have HT := Ai.Aside.mk (And.intro ht1 (And.intro ht2 ht4)); clear ht1 ht2 ht4; have HB2 := Ai.Aside.mk ((HB1.out.trans (hb.mono HB1.out.size)).alloc (Nat.le_trans HB1.out.size hb.size) (.cells #[.int .i64 (t 0), .int .i64 (t 1), .int .i64 (t 2), .int .i64 (t 3), .int .i64 (t 4), .int .i64 (t 5), .int .i64 (t 6), .int .i64 (t 7), .int .i64 (t 8), .int .i64 (t 9), .int .i64 (t 10)] 29)))) | (go_at_call 8; go_loud (refine (HFO.out _ HB2.out hn HS.out).mono ?_; rintro e w4 ⟨A4, cap4, ys, rfl, hys, hacts, hb4⟩)))
      have HI := Ai.Aside.mk ((show IntsAt (w3.alloc (.cells #[.int .i64 (t 0), .int .i64 (t 1), .int .i64 (t 2), .int .i64 (t 3), .int .i64 (t 4), .int .i64 (t 5), .int .i64 (t 6), .int .i64 (t 7), .int .i64 (t 8), .int .i64 (t 9), .int .i64 (t 10)] 29)) w3.heap.size t from heap_alloc_new w3 _).below hb4)
      have HC4 := Ai.Aside.mk ((HC1.out.below hb).below (((Below.refl w3.heap.size w3).alloc (Nat.le_refl _) (.cells #[.int .i64 (t 0), .int .i64 (t 1), .int .i64 (t 2), .int .i64 (t 3), .int .i64 (t 4), .int .i64 (t 5), .int .i64 (t 6), .int .i64 (t 7), .int .i64 (t 8), .int .i64 (t 9), .int .i64 (t 10)] 29)).trans (hb4.mono (by simp))))
      have HB4 := Ai.Aside.mk (HB2.out.trans (hb4.mono HB2.out.size))
      have HY := Ai.Aside.mk hys
      have HAY := Ai.Aside.mk hacts
      clear c0 c1 c2 c3 c4 c5 c6 hb hys hacts hb4 HB2 HB1 HC1 HA HFO HSZ HG HLN
      obtain ⟨k, hk⟩ : ∃ k, k = ys.length := ⟨_, rfl⟩
      rw [← hk]
      have HK := Ai.Aside.mk hk
      clear hk
      obtain ⟨g, hg⟩ : ∃ g, g = w3.heap.size := ⟨_, rfl⟩
      rw [← hg] at HI
      rw [← hg]
      clear hg
      obtain ⟨c0, c1, c2, c3, c4, c5, c6⟩ := HC4.out.facts
      have HENDS : Ai.Aside ((k : Int) ≤ c.m → ∀ W, Below w4.heap.size w4 W → Calls Tryz.prog 9 #[.slice A4 k cap4, .int .i64 c.c] W fun e w' => e = .returned (.bool (endsB ys c.c)) ∧ Below W.heap.size W w') := ⟨fun h W hW => by
        have h5 := HS.out
        simp only [Cfg.Span] at h5
        rw [HK.out]
        refine (ends_ok W A4 cap4 ys (HAY.out.below hW (Nat.le_refl _)) (by have := HK.out; omega) HY.out.1 c.c).mono ?_
        rintro e w' ⟨h1, q, rfl⟩
        exact ⟨h1, below_drewN (Below.refl _ _) _⟩⟩
      have HINS : Ai.Aside ((k : Int) ≤ c.m → ∀ W, Below w4.heap.size w4 W → Calls Tryz.prog 10 #[.slice A4 k cap4, c.V] W fun e w' => e = .returned (.bool (insideB ys (c.b * c.p))) ∧ Below W.heap.size W w') := ⟨fun h W hW => by
        have h5 := HS.out
        simp only [Cfg.Span] at h5
        rw [HK.out]
        exact inside_ok W A4 cap4 ys (HAY.out.below hW (Nat.le_refl _)) (by have := HK.out; omega) HY.out.2.1 c HS.out⟩
      unfold Cfg.V at HINS
      obtain ⟨E, hE⟩ : ∃ E, E = endsB ys c.c := ⟨_, rfl⟩
      obtain ⟨N, hN⟩ : ∃ N, N = insideB ys (c.b * c.p) := ⟨_, rfl⟩
      rw [← hE] at HENDS
      rw [← hN] at HINS
      have HE := Ai.Aside.mk hE
      have HN := Ai.Aside.mk hN
      clear hE hN
      go_cut [49] (fun v49 wc => ∃ q : Bool, v49 = .bool q ∧ Ai.Aside ((q = true → (k : Int) ≤ c.m ∧ E = true ∧ N = true) ∧ Below w4.heap.size w4 wc))
      case first =>
        by_cases hm : (k : Int) ≤ c.m
        · cases E
          · go_wp2_with (first | (go_at_call 9; go_loud (refine (HENDS.out hm _ (Below.refl _ _)).mono ?_; rintro e w5 ⟨rfl, hb5⟩; have HB5 := Ai.Aside.mk hb5; clear c0 c1 c2 c3 c4 c5 c6; obtain ⟨c0, c1, c2, c3, c4, c5, c6⟩ := (HC4.out.below hb5).facts; clear hb5)))
            go_meet
            case rel => exact ⟨false, rfl, ⟨(fun h => by cases h), HB5.out⟩⟩
          · go_wp2_with (first | (go_at_call 9; go_loud (refine (HENDS.out hm _ (Below.refl _ _)).mono ?_; rintro e w5 ⟨rfl, hb5⟩; have HB5 := Ai.Aside.mk hb5; clear c0 c1 c2 c3 c4 c5 c6; obtain ⟨c0, c1, c2, c3, c4, c5, c6⟩ := (HC4.out.below hb5).facts; clear hb5)) | (go_at_call 10; go_loud (refine (HINS.out hm _ HB5.out).mono ?_; rintro e w6 ⟨rfl, hb6⟩; have HB6 := Ai.Aside.mk (HB5.out.trans (hb6.mono HB5.out.size)); clear hb6)))
            go_meet
            case rel => exact ⟨N, rfl, ⟨(fun h => ⟨hm, trivial, h⟩), HB6.out⟩⟩
        · go_wp2_with fail
          go_meet
          case rel => exact ⟨false, rfl, ⟨(fun h => by cases h), Below.refl _ _⟩⟩
      case rest =>
        obtain ⟨q, rfl, HQ⟩ := hcut
        clear c0 c1 c2 c3 c4 c5 c6 HENDS HINS
        go_upto_if 49 with (fail)
        go_cut [12] (fun v12 wd => Ai.Aside (Below w4.heap.size w4 wd))
        case first =>
          cases q
          · go_wp2_with fail
            go_meet
            case rel => exact ⟨HQ.out.2⟩
          · have HQ1 := Ai.Aside.mk (show (k : Int) ≤ c.m ∧ E = true ∧ N = true from HQ.out.1 (by trivial))
            have HF := Ai.Aside.mk (HY.out.2.2 (HK.out ▸ HQ1.out.1) (HE.out ▸ HQ1.out.2.1) (HN.out ▸ HQ1.out.2.2))
            have HSN : Ai.Aside (∀ W, Below w4.heap.size w4 W → Calls Tryz.prog 11 #[.slice A4 k cap4] W fun e w' => ∃ v', e = .returned (.tuple #[v', .int .i64 0]) ∧ Below W.heap.size W w' ∧ w'.ownsRow W.heap.size 5 1 v' (enc ys.length ++ snapB 0 0 ys).length (bytesV (enc ys.length ++ snapB 0 0 ys))) := ⟨fun W hW => by
              have h5 := HS.out
              simp only [Cfg.Span] at h5
              have h6 := HQ1.out.1
              rw [HK.out]
              exact snapshot_ok W A4 cap4 ys (HAY.out.below hW (Nat.le_refl _)) (by have := HK.out; omega) HF.out.1⟩
            go_upto_region 11 with (first | (go_at_call 11; go_loud (refine (HSN.out _ HQ.out.2).mono ?_; rintro e w5 ⟨v5, rfl, hb5, hown⟩; have HB5 := Ai.Aside.mk (HQ.out.2.trans (hb5.mono HQ.out.2.size)); have HO := Ai.Aside.mk hown; clear hb5 hown)))
            obtain ⟨L, hL⟩ : ∃ L : Nat, L = (enc ys.length ++ snapB 0 0 ys).length := ⟨_, rfl⟩
            have HO1 := HO.out
            have HF2 := HF.out.2
            rw [← hL] at HO1 HF2
            obtain ⟨A5, cap5, rfl⟩ := own_any HO1
            clear HO1 HO hL
            obtain ⟨i1, i2, i4⟩ := (HI.out.below HB5.out).facts
            have hd : decide (t 1 < pagesV (L : Int)) = false := decide_eq_false (by rw [HT.out.1]; omega)
            clear i2 i4 HF2
            go_quiet ((go_at_call 12; refine Calls.quiet_of_same (pages_ok _ _)))
            go_wp2_with fail
            go_meet
            case rel => exact ⟨below_drewN HB5.out _⟩
        case rest =>
          have HW := hcut
          clear hcut HQ HE HN HY HAY
          obtain ⟨i1, i2, i4⟩ := (HI.out.below HW.out).facts
          clear i1 i4
          by_cases hm : (m : Int) ≤ t 2
          · have hmb : m ≤ 136 := by have h1 := opsM_le HS.out; have h2 := HT.out.2.1; omega
            go_wp2_with fail
            go_loopw [12] (fun v12 wr => ∃ (j : Nat), j ≤ m ∧ v12 = .int .i64 j ∧ Ai.Aside (Below w4.heap.size w4 wr ∧ ∀ (i : Nat) (x : Op3), i < j → ops[i]? = some x → rightR c.c x.l x.n = true ∧ -1 ≤ x.p ∧ x.p ≤ c.b * c.p - x.n)) (fun v12 _ => m - (intOf v12).toNat)
            case atStart => exact ⟨0, by omega, rfl, ⟨HW.out, fun i x hi => absurd hi (Nat.not_lt_zero i)⟩⟩
            case round =>
              obtain ⟨j, hj, rfl, HR⟩ := hrel
              by_cases hlt : j < m
              · obtain ⟨x, hx⟩ : ∃ x, ops[j]? = some x := ⟨_, List.getElem?_eq_getElem (by rw [← HLM.out]; exact hlt)⟩
                have HX := Ai.Aside.mk hx
                have HBW := Ai.Aside.mk (HB4.out.trans (HR.out.1.mono HB4.out.size))
                obtain ⟨b, off, rfl, hb, hcells⟩ := (HOB.out.below HBW.out (Nat.le_refl _)).2 (by rw [← HLM.out]; omega)
                obtain ⟨q0, q1, q2⟩ := hcells j x hx
                have hin := HOB.out.1 x (List.mem_of_getElem? hx)
                simp only [inI] at hin
                obtain ⟨c0, c1, c2, c3, c4, c5, c6⟩ := (HC4.out.below (HR.out.1.alloc HR.out.1.size (.cells #[.int .i64 x.l, .int .i64 x.n, .int .i64 x.p] 42))).facts
                have hsp := HS.out
                simp only [Cfg.Span] at hsp
                have hcc : 0 ≤ c.c ∧ c.c ≤ 512 := by omega
                have hbp : 0 ≤ c.b * c.p ∧ c.b * c.p ≤ 2048 := ⟨Int.mul_nonneg (by omega) (by omega), Int.le_trans (Int.mul_le_mul (by omega : c.b ≤ 64) (by omega : c.p ≤ 32) (by omega) (by omega)) (by decide)⟩
                have hw1 : IntKind.i64.wrap (c.b * c.p) = c.b * c.p := by rw [IntKind.wrap_i64]; omega
                clear hcells hx hb c3 c4 c5 c6 hsp
                obtain ⟨r, hr⟩ : ∃ r, r = rightR c.c x.l x.n := ⟨_, rfl⟩
                have HRI := Ai.Aside.mk (rright_ok (wr.alloc (.cells #[.int .i64 x.l, .int .i64 x.n, .int .i64 x.p] 42)) c.c x.l x.n hcc)
                rw [← hr] at HRI
                cases r
                · clear hr
                  go_wp2_with (first | (go_at_call 13; go_loud (refine HRI.out.mono ?_; rintro e w5 ⟨rfl, rfl⟩)))
                  go_ret
                  exact ⟨rfl, HB4.out.trans ((HR.out.1.alloc HR.out.1.size _).mono HB4.out.size)⟩
                · have hr2 := hr.symm
                  simp only [rightR, decide_eq_true_eq] at hr2
                  have hw2 : IntKind.i64.wrap (c.b * c.p - x.n) = c.b * c.p - x.n := by rw [IntKind.wrap_i64]; omega
                  have HRT := Ai.Aside.mk hr
                  clear hr
                  by_cases h1 : x.p < -1
                  · go_wp2_with (first | (go_at_call 13; go_loud (refine HRI.out.mono ?_; rintro e w5 ⟨rfl, rfl⟩)))
                    go_ret
                    exact ⟨rfl, HB4.out.trans ((HR.out.1.alloc HR.out.1.size _).mono HB4.out.size)⟩
                  · by_cases h2 : x.p > c.b * c.p - x.n
                    · go_wp2_with (first | (go_at_call 13; go_loud (refine HRI.out.mono ?_; rintro e w5 ⟨rfl, rfl⟩)))
                      go_ret
                      exact ⟨rfl, HB4.out.trans ((HR.out.1.alloc HR.out.1.size _).mono HB4.out.size)⟩
                    · go_wp2_with (first | (go_at_call 13; go_loud (refine HRI.out.mono ?_; rintro e w5 ⟨rfl, rfl⟩)))
                      go_roundw
                      case rel => exact ⟨j + 1, by omega, by go_num, ⟨HR.out.1.alloc HR.out.1.size _, fun i y hi hy => by
                        by_cases hij : i < j
                        · exact HR.out.2 i y hij hy
                        · have : i = j := by omega
                          subst this
                          have e := Option.some.inj (hy.symm.trans HX.out)
                          subst e
                          exact ⟨HRT.out.symm, by omega, by omega⟩⟩⟩
                      case measure => simp [intOf]; omega
              · have hjm : j = m := by omega
                subst hjm
                have hRF := rec_fits HS.out (ops := ops) (by have := HT.out.2.1; have := HLM.out; omega) (fun x hx => by
                  obtain ⟨i, hlt, hxi⟩ := List.getElem_of_mem hx
                  exact HR.out.2 i x (by rw [HLM.out]; exact hlt) (by rw [List.getElem?_eq_getElem hlt, hxi]))
                have HRF := Ai.Aside.mk hRF
                have HBW := Ai.Aside.mk (HB4.out.trans (HR.out.1.mono HB4.out.size))
                have HRC := Ai.Aside.mk (record_ok wr B capB ops (HOB.out.below HBW.out (Nat.le_refl _)) hRF.1)
                rw [← HLM.out] at HRC
                clear hRF
                go_upto_region 22 with (first | (go_at_call 14; go_loud (refine HRC.out.mono ?_; rintro e w5 ⟨v5, er, rfl, hb5, hok, -⟩; obtain ⟨rfl, hown⟩ := hok HRF.out.2.1; have HO := Ai.Aside.mk hown; have HB5 := Ai.Aside.mk (HR.out.1.trans (hb5.mono HR.out.1.size)); clear hb5 hok hown)))
                obtain ⟨L, hL⟩ : ∃ L : Nat, L = (enc j ++ recB 0 0 ops).length := ⟨_, rfl⟩
                have HO1 := HO.out
                rw [← hL] at HO1
                have hPL : pagesV (L : Int) ≤ recP c := by rw [hL, HLM.out]; exact HRF.out.2.2
                obtain ⟨A5, cap5, rfl⟩ := own_any HO1
                clear HO1 HO hL
                obtain ⟨i1, i2, i4⟩ := (HI.out.below HB5.out).facts
                have hd : decide (pagesV (L : Int) ≤ t 4) = true := decide_eq_true (by rw [HT.out.2.2]; exact hPL)
                clear i1 i2 hPL
                go_quiet ((go_at_call 12; refine Calls.quiet_of_same (pages_ok _ _)))
                go_wp2_with fail
                go_ret
                exact ⟨by first | rfl | simp [hd], below_drewN (HB4.out.trans (HB5.out.mono HB4.out.size)) _⟩
          · go_wp2_with fail
            go_ret
            exact ⟨rfl, HB4.out.trans (HW.out.mono HB4.out.size)⟩
  · go_enter Tryz.func3, Tryz.ntmps3
    go_wp2_with (first | (go_at_call 5; go_loud (refine (awake_ok _).mono ?_; rintro e w1 ⟨rfl, hb⟩; have HC := Ai.Aside.mk (HC0.out.below hb); have HB := Ai.Aside.mk (HB0.out.trans (hb.mono HB0.out.size)); clear hb HC0 HB0; obtain ⟨c0, c1, c2, c3, c4, c5, c6⟩ := HC.out.facts)) | (go_at_call 6; go_loud (refine (HG.out _).mono ?_; rintro e w2 ⟨r, rfl, hr, hb⟩; have HB1 := Ai.Aside.mk (HB.out.trans (hb.mono HB.out.size)); clear hr hb; cases r)))
    all_goals
      go_wp2_with fail
      go_ret
      exact ⟨rfl, HB1.out⟩
end Fi
end Go.Proofs.YtjmhkcfdmcjilaaGreat
