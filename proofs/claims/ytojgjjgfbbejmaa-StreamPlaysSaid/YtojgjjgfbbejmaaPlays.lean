/- StreamPlays: the program's detector and the document's own, told the same, answer the same. -/
import Derived.Test.YtojgjjgfbbejmaaRefFeed
import Derived.Deep.DeepCutAuto
namespace Go.Proofs.Ytojgjjgfbbejmaa
open Go.RowKit
set_option linter.unusedVariables false
set_option linter.unusedSimpArgs false

theorem own_row {w : World} {base : Nat} {v : Value} {xs : List Int} (h : w.ownsRow base 3 1 v xs.length (xs.map (Value.int .i64))) (hne : 1 ≤ xs.length) : ∃ g cap, v = .slice (some ⟨g, 0, none⟩) xs.length cap ∧ base ≤ g ∧ Row w g xs := by
  rcases h.2 with ⟨_, h0⟩ | ⟨g, cap, cur, rfl, hb, hgg, hc, hcap, hs, ht⟩
  · omega
  · exact ⟨g, cap, rfl, hb, ⟨cur.toList, by simpa using hgg, by simp; omega, by simpa using ht⟩⟩

theorem det_ref_ne {w : World} {g B r b0 b1 b2 c0 c1 c2 : Nat} {l l' : List One} {now now' : Int} (h : IsDet w g B l now) (k : IsRef w r b0 b1 b2 c0 c1 c2 l' now') :
    (∀ x, x = g ∨ x = B → ¬ (x = r ∨ x = b0 ∨ x = b1 ∨ x = b2)) := by
  obtain ⟨u0, e0, -⟩ := k.r0
  obtain ⟨u1, e1, -⟩ := k.r1
  obtain ⟨u2, e2, -⟩ := k.r2
  have er := k.d
  have hd := h.d
  have hs := h.s
  rintro x (rfl | rfl) (rfl | rfl | rfl | rfl) <;> simp_all

structure Play (w wr : World) (g B r b0 b1 b2 c0 c1 c2 : Nat) (l : List One) (now : Int) (i : Nat) : Prop where
  det : IsDet wr g B l now
  ref : IsRef wr r b0 b1 b2 c0 c1 c2 l now
  lo : 0 ≤ now
  hi : now ≤ i
  long : LongOk l now
  below : Below w.heap.size w wr
  gB : ∀ x, x = g ∨ x = B ∨ x = r ∨ x = b0 ∨ x = b1 ∨ x = b2 → w.heap.size ≤ x
  ne : g ≠ B

set_option maxHeartbeats 400000 in
set_option maxRecDepth 100000 in
theorem plays_out (n : Int) (A : Option Addr) (len cap : Nat) (w : World) (h : n < 1 ∨ 16 < n ∨ 100 < len) (hlen : len ≤ maxLen) :
    Calls Try.prog 4 #[.int .i64 n, .slice A len cap] w fun e w' => e = .returned (.bool true) ∧ Below w.heap.size w w' := by
  unfold maxLen at hlen
  by_cases hn : n < 1 ∨ 16 < n
  · clear h
    have hc : n < 1 ∨ (¬ n < 1 ∧ 16 < n) := by omega
    rcases hc with h1 | ⟨h1, h2⟩
    all_goals
      go_enter Try.func4, Try.ntmps4
      go_wp2_with (first | (go_at_call 7; refine (awake_ok _).mono ?_; rintro e w1 ⟨rfl, hb⟩; have HB := Aside.mk hb; clear hb) | (go_at_call 8; refine (new_bad _ _ hn).mono ?_; rintro e w2 ⟨rfl, rfl⟩))
      go_ret
      exact ⟨rfl, HB.out⟩
  · obtain ⟨m, rfl⟩ := Int.eq_ofNat_of_zero_le (show 0 ≤ n by omega)
    have hl : 100 < len := by omega
    have h1 : 1 ≤ m := by omega
    have h2 : m ≤ 16 := by omega
    clear h hn
    go_enter Try.func4, Try.ntmps4
    go_wp2_with (first | (go_at_call 7; refine (awake_ok _).mono ?_; rintro e w1 ⟨rfl, hb⟩; have HB := Aside.mk hb; clear hb) | (go_at_call 8; refine (new_ok _ _ h1 h2).mono ?_; rintro e w2 ⟨rfl, -, hb⟩; have HB2 := Aside.mk (HB.out.trans (hb.mono HB.out.size)); clear hb))
    go_ret
    exact ⟨rfl, HB2.out⟩

set_option maxHeartbeats 1000000 in
set_option maxRecDepth 100000 in
theorem plays_in (n : Nat) (A : Option Addr) (cap : Nat) (xs : List (Int × Int)) (w : World) (h1 : 1 ≤ n) (h2 : n ≤ 16) (h3 : xs.length ≤ 100) (hA : Acts w A xs) :
    Calls Try.prog 4 #[.int .i64 n, .slice A xs.length cap] w fun e w' => e = .returned (.bool true) ∧ Below w.heap.size w w' := by
  have HA := Aside.mk hA
  clear hA
  go_enter Try.func4, Try.ntmps4
  go_wp2_with fail
  refine (awake_ok _).mono ?_
  rintro e w1 ⟨rfl, hb⟩
  have HB := Aside.mk hb
  clear hb
  go_wp2_with fail
  refine (new_ok n _ h1 h2).mono ?_
  rintro e w2 ⟨rfl, hd, hb⟩
  have HD := Aside.mk hd
  have HB2 := Aside.mk (HB.out.trans (hb.mono HB.out.size))
  have HS := Aside.mk (show w.heap.size ≤ w1.heap.size ∧ w1.heap.size + 1 < w2.heap.size from ⟨HB.out.size, (Array.getElem?_eq_some_iff.1 hd.d).1⟩)
  clear hd hb HB
  go_wp2_with fail
  refine (refnew_ok n _ h2).mono ?_
  rintro e w3 ⟨v0, v1, v2, rfl, hm, hb⟩
  obtain ⟨b0, b1, b2, c0, c1, c2, hr, k0, k1, k2⟩ := hm.ref h1
  have HR : Aside (∃ l now, l.length = n ∧ Play w w3 (w1.heap.size + 1) w1.heap.size w2.heap.size b0 b1 b2 c0 c1 c2 l now 0) :=
    ⟨_, _, by simp, HD.out.below hb, hr, by omega, by omega, fun i hi => by rw [getD_at _ _ hi]; simp, HB2.out.trans (hb.mono HB2.out.size), by have := HS.out; rintro x (rfl | rfl | rfl | rfl | rfl | rfl) <;> omega, by omega⟩
  clear hm hr hb HD HB2 k0 k1 k2
  generalize w1.heap.size + 1 = g at *
  generalize w1.heap.size = B at *
  generalize w2.heap.size = r at *
  clear HS
  go_wp2_with fail
  go_loopw [8] (fun v wr => ∃ i : Nat, i ≤ xs.length ∧ v = .int .i64 i ∧ Aside (∃ l now, l.length = n ∧ Play w wr g B r b0 b1 b2 c0 c1 c2 l now i)) (fun v _ => xs.length - (intOf v).toNat)
  case atStart => exact ⟨0, by omega, rfl, HR⟩
  case round =>
    obtain ⟨i, hi, rfl, HR⟩ := hrel
    by_cases hlt : i < xs.length
    · obtain ⟨l, now, hln, hP⟩ := HR.out
      subst hln
      obtain ⟨b, off, rfl, hbw, hcs⟩ := HA.out.mem (by omega)
      obtain ⟨hx, hy⟩ := hcs i hlt
      obtain ⟨fx, fy⟩ := HA.out.fit i hlt
      have HP := Aside.mk hP
      have hx1 : wr.cell? ⟨b, off + i * 2, none⟩ = some (.int .i64 xs[i].1) := (hP.below.cell (p := ⟨b, _, none⟩) hbw).trans hx
      have hy1 : wr.cell? ⟨b, off + i * 2 + 1, none⟩ = some (.int .i64 xs[i].2) := (hP.below.cell (p := ⟨b, _, none⟩) hbw).trans hy
      clear hP hcs HR hx hy
      generalize xs[i].1 = x at *
      generalize xs[i].2 = y at *
      go_wp2_with fail
      have hdn : 0 ≤ now ∧ now ≤ 100000 := by have := HP.out.lo; have := HP.out.hi; omega
      refine (feed_any g B l now x y _ (HP.out.det.alloc _) HP.out.ne ⟨h1, h2⟩ hdn HP.out.long fx fy).mono ?_
      rintro e w4 ⟨rfl, hd4, hF4⟩
      have HD4 := Aside.mk hd4
      have HF4 := Aside.mk hF4
      have hgB : g < wr.heap.size ∧ B < wr.heap.size := ⟨(Array.getElem?_eq_some_iff.1 HP.out.det.d).1, (Array.getElem?_eq_some_iff.1 HP.out.det.s).1⟩
      have hbx : w4.heap[wr.heap.size]? = some (.cells #[.int .i64 x, .int .i64 y] 37 (0, 0)) := (hF4.block wr.heap.size (by simp) (by omega)).trans (heap_alloc_new wr _)
      have hx4 := cell_of_row _ _ 0 _ _ _ hbx
      have hy4 := cell_of_row _ _ 1 _ _ _ hbx
      clear hd4 hF4 hx1 hy1 hbx
      go_upto_region 14 with (fail)
      go_cut [90] (fun v90 wc => v90 = .bool (!goodB x y) ∧ wc = w4)
      case first =>
        have hcase : (x < 0) ∨ (0 ≤ x ∧ y < 1) ∨ (0 ≤ x ∧ 1 ≤ y ∧ 1073741824 < x) ∨ (0 ≤ x ∧ 1 ≤ y ∧ x ≤ 1073741824 ∧ 1073741824 - x < y) ∨ (0 ≤ x ∧ 1 ≤ y ∧ x ≤ 1073741824 ∧ y ≤ 1073741824 - x) := by omega
        have HG : Aside (goodB x y = true ↔ (0 ≤ x ∧ 1 ≤ y ∧ x ≤ 1073741824 ∧ y ≤ 1073741824 - x)) := ⟨by rw [goodB_iff]; unfold Good; omega⟩
        rcases hcase with q1 | ⟨q1, q2⟩ | ⟨q1, q2, q3⟩ | ⟨q1, q2, q3, q4⟩ | ⟨q1, q2, q3, q4⟩
        all_goals
          go_wp2_with fail
          go_meet
          case rel =>
            refine ⟨?_, rfl⟩
            cases hg : goodB x y
            · rw [hg] at HG
              have := HG.out
              simp at this ⊢ <;> omega
            · rw [hg] at HG
              have := HG.out
              simp at this ⊢ <;> omega
      case rest =>
      obtain ⟨rfl, rfl⟩ := hcut
      obtain ⟨w4, rfl⟩ : ∃ w4 : World, w4 = wc := ⟨_, rfl⟩
      go_upto_if 90 with (fail)
      have hne := det_ref_ne HP.out.det HP.out.ref
      have hlr := HP.out.ref.lt
      have HR4 : Aside (IsRef w4 r b0 b1 b2 c0 c1 c2 l now) := ⟨HP.out.ref.of fun k hk => by
        have hk' : k < wr.heap.size := by rcases hk with rfl | rfl | rfl | rfl <;> omega
        have hk2 : ¬ (k = g ∨ k = B) := fun e => hne k e hk
        rw [HF4.out.block k (by simp; omega) hk2, Below.heap_alloc _ _ _ hk']⟩
      clear hne hlr
      go_cut [10, 11] (fun v10 v11 we => Aside (IsRef we r b0 b1 b2 c0 c1 c2 (fedL l now x y) (fedNow now x y) ∧ Fr (fun k => k = r ∨ k = b0 ∨ k = b1 ∨ k = b2) w4 we))
      case first =>
        cases hg : goodB x y
        · have e1 : fedK l x y = 0 := by unfold fedK; rw [hg]; rfl
          have e2 : fedE x y = 1 := by unfold fedE; rw [hg]; rfl
          have e3 : fedL l now x y = l := by unfold fedL; rw [hg]; rfl
          have e4 : fedNow now x y = now := by unfold fedNow; rw [hg]; rfl
          have E3 := Lib.hid e3
          have E4 := Lib.hid e4
          rw [e1, e2]
          clear e1 e2 e3 e4 hg
          go_wp2_with fail
          go_meet
          case rel => exact ⟨by rw [E3.out, E4.out]; exact HR4.out, Fr.refl _ _⟩
        · have e1 : fedK l x y = feedAt l x := by unfold fedK; rw [hg]; rfl
          have e2 : fedE x y = 0 := by unfold fedE; rw [hg]; rfl
          have e3 : fedL l now x y = feedL l now x y := by unfold fedL; rw [hg]; rfl
          have e4 : fedNow now x y = now + 1 := by unfold fedNow; rw [hg]; rfl
          have E3 := Lib.hid e3
          have E4 := Lib.hid e4
          have HG := Aside.mk ((goodB_iff x y).1 hg)
          rw [e1, e2]
          clear e1 e2 e3 e4 hg
          go_wp2_with (go_at_call 14; refine (reffeed_ok r b0 b1 b2 c0 c1 c2 l now x y _ HR4.out ⟨h1, h2⟩ hdn HP.out.long HG.out).mono ?_; rintro e w5 ⟨rfl, hr5, hF5⟩; have HR5 := Aside.mk hr5; have HF5 := Aside.mk hF5; clear hr5 hF5)
          go_meet
          case rel => exact ⟨by rw [E3.out, E4.out]; exact HR5.out, HF5.out⟩
      case rest =>
      have hne4 := det_ref_ne HD4.out HR4.out
      have hlr := HR4.out.lt
      have HP5 : Aside (Play w wc g B r b0 b1 b2 c0 c1 c2 (fedL l now x y) (fedNow now x y) (i + 1)) := by
        obtain ⟨hr5, hF5⟩ := hcut.out
        have hg4 := (Array.getElem?_eq_some_iff.1 HD4.out.d).1
        have hB4 := (Array.getElem?_eq_some_iff.1 HD4.out.s).1
        have hP := HP.out
        have hk := hP.gB
        have hb4 : Below w.heap.size w w4 := (hP.below.alloc hP.below.size (.cells #[.int .i64 x, .int .i64 y] 37)).trans ⟨HF4.out.os, HF4.out.tape, HF4.out.output, HF4.out.size, fun k hk' => HF4.out.block k (by have := hP.below.size; simp; omega) (by rintro (rfl | rfl); exact absurd (hk _ (.inl rfl)) (by omega); exact absurd (hk _ (.inr (.inl rfl))) (by omega))⟩
        refine ⟨⟨?_, ?_⟩, hr5, ?_, ?_, hP.long.fed hP.lo h1 x y, hb4.trans ⟨hF5.os, hF5.tape, hF5.output, hF5.size, fun k hk' => hF5.block k (by have := hb4.size; omega) (fun e => by have := hk k (by rcases e with e | e | e | e <;> simp [e]); omega)⟩, hk, hP.ne⟩
        · rw [hF5.block g hg4 (hne4 g (.inl rfl))]; exact HD4.out.d
        · rw [hF5.block B hB4 (hne4 B (.inr rfl))]; exact HD4.out.s
        · have := hP.lo; unfold fedNow; split <;> omega
        · have := hP.hi; unfold fedNow; split <;> omega
      have hl' : (fedL l now x y).length = l.length := fedL_length _ _ _ _
      have HL' := Lib.hid hl'
      clear hne4 hlr hcut HR4 HD4 HF4 HP hx4 hy4 hgB hl'
      generalize fedL l now x y = l' at *
      generalize fedNow now x y = now' at *
      go_wp2_with fail
      refine (expects_ok g B l' now' _ HP5.out.det (by rw [HL'.out]; omega)).mono ?_
      rintro e w6 ⟨v, rfl, ho, hb6⟩
      rw [exps_all] at ho
      have ho' : w6.ownsRow wc.heap.size 3 1 v (l'.map (·.1)).length ((l'.map (·.1)).map (Value.int .i64)) := by rw [List.length_map, List.map_map]; exact ho
      obtain ⟨gs, caps, rfl, hgs, hrow⟩ := own_row ho' (by rw [List.length_map, HL'.out]; omega)
      have HP6 : Aside (Play w w6 g B r b0 b1 b2 c0 c1 c2 l' now' (i + 1)) := by
        have hP := HP5.out
        exact ⟨hP.det.below hb6, hP.ref.of fun k hk => hb6.block k (by have := hP.ref.lt; rcases hk with rfl | rfl | rfl | rfl <;> omega), hP.lo, hP.hi, hP.long, hP.below.trans (hb6.mono hP.below.size), hP.gB, hP.ne⟩
      have HRow := Aside.mk hrow
      have HGS : Aside (w.heap.size ≤ gs ∧ ¬ (gs = b0 ∨ gs = b1 ∨ gs = b2 ∨ gs = g ∨ gs = B ∨ gs = r)) := ⟨by have := HP5.out.below.size; omega, by
        have := HP5.out.ref.lt
        have := (Array.getElem?_eq_some_iff.1 HP5.out.det.d).1
        have := (Array.getElem?_eq_some_iff.1 HP5.out.det.s).1
        omega⟩
      clear ho ho' hb6 hrow hgs HP5
      rw [List.length_map, HL'.out]
      have hc0 := cell_of_row _ _ 0 _ _ _ HP6.out.ref.d
      have hc2 := cell_of_row _ _ 2 _ _ _ HP6.out.ref.d
      simp only [HL'.out] at hc0 hc2
      go_wp2_with fail
      have hlm : (l'.map (·.1)).length = l.length := by rw [List.length_map, HL'.out]
      have hin := ints_same gs b0 caps c0 (l'.map (·.1)) w6 (by rw [hlm]; omega) (fun i hi => by rw [HRow.out.cell i hi, getD_at _ _ hi]) (fun i hi => by rw [HP6.out.ref.r0.cell i hi, getD_at _ _ hi])
      rw [hlm] at hin
      refine hin.mono ?_
      clear hin hlm
      rintro e w7 ⟨rfl, m7, rfl⟩
      go_wp2_with fail
      go_loopw [13] (fun v wj => ∃ j : Int, -1 ≤ j ∧ j ≤ l.length + 1 ∧ v = .int .i64 j ∧ Aside (∃ m, wj = w6.drewN m)) (fun v _ => (l.length + 1 - intOf v).toNat)
      case atStart => exact ⟨-1, by omega, by omega, rfl, ⟨m7, rfl⟩⟩
      case round =>
        obtain ⟨j, hj1, hj2, rfl, HJ⟩ := hrel
        obtain ⟨m, rfl⟩ := HJ.out
        clear HJ
        have hL16 : l'.length ≤ 16 := by rw [HL'.out]; exact h2
        by_cases hje : j ≤ l.length
        · have hcase : j < 0 ∨ (0 ≤ j ∧ (l.length : Int) ≤ j) ∨ (0 ≤ j ∧ j < l.length) := by omega
          rcases hcase with q | ⟨q1, q2⟩ | ⟨q1, q2⟩
          · go_wp2_with (go_at_call 10; refine (long_bad g B l' now' j _ (HP6.out.det.drewN m) hL16 (.inl q)).mono ?_; rintro e w8 ⟨rfl, rfl⟩)
            go_roundw
            case rel => exact ⟨j + 1, by omega, by omega, rfl, ⟨m, rfl⟩⟩
            case measure => simp [intOf]; omega
          · have q3 : j < 0 ∨ (l'.length : Int) ≤ j := by rw [HL'.out]; exact .inr q2
            have Q3 := Aside.mk q3
            clear q3
            go_wp2_with (go_at_call 10; refine (long_bad g B l' now' j _ (HP6.out.det.drewN m) hL16 Q3.out).mono ?_; rintro e w8 ⟨rfl, rfl⟩)
            go_roundw
            case rel => exact ⟨j + 1, by omega, by omega, rfl, ⟨m, rfl⟩⟩
            case measure => simp [intOf]; omega
          · obtain ⟨j, rfl⟩ := Int.eq_ofNat_of_zero_le q1
            have q4 : j < l'.length := by rw [HL'.out]; omega
            have hc := HP6.out.ref.r2.cell j (by simpa using q4)
            rw [map_getD _ _ _ q4] at hc
            have Q4 := Aside.mk q4
            clear q4
            have HLJ := Aside.mk (long_ok g B l' now' j (w6.drewN m) (HP6.out.det.drewN m) hL16 Q4.out)
            generalize (l'.getD j z3).2.2 = p at *
            go_wp2_with (go_at_call 10; refine (HLJ.out).mono ?_; rintro e w8 ⟨rfl, rfl⟩)
            go_roundw
            case rel => exact ⟨(j : Int) + 1, by omega, by omega, rfl, ⟨m, rfl⟩⟩
            case measure => simp [intOf]; omega
        · have hg2 : (l.length : Int) < j := by omega
          clear hje hc0 hc2
          go_wp2_with fail
          go_loopw [16] (fun v wj => ∃ j : Nat, j ≤ l.length ∧ v = .int .i64 j ∧ Aside (Play w wj g B r b0 b1 b2 c0 c1 c2 l' now' (i + 1) ∧ ∃ ys : List Int, ys.length = l.length ∧ Row wj gs ys)) (fun v _ => l.length - (intOf v).toNat)
          case atStart =>
            have hP := HP6.out
            exact ⟨0, by omega, rfl, ⟨⟨hP.det.drewN m, hP.ref.drewN m, hP.lo, hP.hi, hP.long, bel_drewN hP.below m, hP.gB, hP.ne⟩, _, by rw [List.length_map, HL'.out], HRow.out.of rfl⟩⟩
          case round =>
            obtain ⟨j, hj, rfl, HJ⟩ := hrel
            by_cases hjl : j < l.length
            · obtain ⟨hP, ys, hys, hrw⟩ := HJ.out
              have hcy := hrw.cell j (by omega)
              have hfy := hrw.frozen j
              have HQ := Aside.mk hP
              have HRW := Aside.mk hrw
              have HYS := Aside.mk hys
              clear hP hrw hys HJ
              go_wp2_with fail
              go_roundw
              case rel =>
                have hP := HQ.out
                have hgs := HGS.out
                refine ⟨j + 1, by omega, by go_num, ⟨⟨⟨?_, ?_⟩, ?_, hP.lo, hP.hi, hP.long, hP.below.setCell hgs.1 _, hP.gB, hP.ne⟩, ys.set j 99, by rw [List.length_set]; exact HYS.out, HRW.out.set j 99⟩⟩
                · exact far_block hP.det.d (by show g ≠ gs; omega) _
                · exact far_block hP.det.s (by show B ≠ gs; omega) _
                · exact hP.ref.of fun k hk => Below.heap_setCell _ _ _ _ (by show k ≠ gs; omega)
              case measure => simp [intOf]; omega
            · go_wp2_with fail
              go_roundw
              case rel => exact ⟨i + 1, by omega, by go_num, ⟨l', now', HL'.out, HJ.out.1⟩⟩
              case measure => simp [intOf]; omega
    · obtain ⟨l, now, hln, hP⟩ := HR.out
      have HB := Aside.mk hP.below
      clear hP HR
      go_wp2_with fail
      go_ret
      exact ⟨rfl, HB.out⟩
end Go.Proofs.Ytojgjjgfbbejmaa
