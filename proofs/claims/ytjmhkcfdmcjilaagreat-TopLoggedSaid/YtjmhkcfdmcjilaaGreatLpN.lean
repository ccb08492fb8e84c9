/-
  Walks: slices.Equal of runs, span.Same.
-/
import Derived.Test.YtjmhkcfdmcjilaaGreatLpH
/- Walk of span.trial, by the flat map. -/
set_option linter.unusedVariables false
set_option linter.unusedSimpArgs false
namespace Go.Proofs.YtjmhkcfdmcjilaaGreat
namespace Lo
open Go.RowKit Ai Fi

def TryPost (w : World) (r : Int) (e : Ending) (w' : World) : Prop := e = .returned (.int .i64 r) ∧ Below w.heap.size w w'

/-- What stands while the trial runs. -/
structure TrySt (w wx : World) (g N : Nat) (wr : World) : Prop where
  tb : Tb w.heap.size g N wr
  mod : ModB (At g) wx wr
  below : Below w.heap.size w wr

theorem num_in {N : Nat} {xs : List Op3} (h : ∀ x ∈ xs, Num N x) (hN : N ≤ 512) : ∀ x ∈ xs, inI x.l ∧ inI x.n ∧ inI x.p := fun x hx => by
  have := h x hx
  unfold Num at this
  unfold inI
  omega

theorem try_start {w w2 w3 : World} {g N : Nat} (h : Tb w.heap.size g N w2) (h2 : Below w.heap.size w w2) (h3 : Below w2.heap.size w2 w3) : TrySt w w3 g N w3 :=
  ⟨h.below h3, ModB.refl _ _, h2.trans (h3.mono h2.size)⟩

theorem try_alloc {w w3 wr : World} {g N : Nat} (h : TrySt w w3 g N wr) (o : Obj) : TrySt w w3 g N (wr.alloc o) := ⟨h.tb.alloc o, h.mod.alloc o, h.below.alloc h.below.size o⟩
theorem try_set {w w3 wr : World} {g N : Nat} (h : TrySt w w3 g N wr) (i : Nat) {v : Int} (hv : -1 ≤ v ∧ v ≤ 1049087) : TrySt w w3 g N (wr.setCell ⟨g, i, none⟩ (.int .i64 v)) :=
  ⟨h.tb.set i hv, h.mod.trans (modB_at wr g i _), h.below.setCell (p := ⟨g, i, none⟩) h.tb.1 _⟩
theorem three_at (w : World) (x y z : Value) (t : TypeId) : (w.alloc (.cells #[x, y, z] t)).cell? ⟨w.heap.size, 0, none⟩ = some x ∧ (w.alloc (.cells #[x, y, z] t)).cell? ⟨w.heap.size, 1, none⟩ = some y ∧ (w.alloc (.cells #[x, y, z] t)).cell? ⟨w.heap.size, 2, none⟩ = some z :=
  ⟨by rw [cell_of_row _ _ _ _ _ _ (heap_alloc_new w _)]; rfl, by rw [cell_of_row _ _ _ _ _ _ (heap_alloc_new w _)]; rfl, by rw [cell_of_row _ _ _ _ _ _ (heap_alloc_new w _)]; rfl⟩

theorem try_all {N n : Nat} {xs : List Op3} (h : ∀ y ∈ xs.take n, okOp N y = true) (hn : n = xs.length) : tryL N xs = 0 := by
  rw [hn, List.take_length] at h
  unfold tryL
  rw [if_pos (List.all_eq_true.2 h)]
theorem try_end {w wr : World} {N : Nat} {xs : List Op3} {r : Int} (h : tryL N xs = r) (hb : Below w.heap.size w wr) : TryPost w (tryL N xs) (.returned (.int .i64 r)) wr := ⟨by rw [h], hb⟩
theorem try_bad {N : Nat} {xs : List Op3} {y : Op3} (hy : y ∈ xs) (h : okOp N y = false) : tryL N xs = 1 := by
  unfold tryL
  rw [if_neg]
  intro h2
  rw [List.all_eq_true.1 h2 y hy] at h
  cases h
theorem try_next {N i : Nat} {xs : List Op3} {y : Op3} (h : ∀ y ∈ xs.take i, okOp N y = true) (hy : xs[i]? = some y) (hk : okOp N y = true) : ∀ y ∈ xs.take (i + 1), okOp N y = true := by
  intro z hz
  rw [List.take_add_one, hy] at hz
  simp only [Option.toList_some, List.mem_append, List.mem_singleton] at hz
  rcases hz with hz | rfl
  · exact h z hz
  · exact hk

set_option maxHeartbeats 8000000 in
set_option maxRecDepth 100000 in
theorem ftrial_ok (w : World) (m g cap : Nat) (tb : List Int) (hF : Flat w m 512 g cap tb) (hT : okT tb) (hl : 1 ≤ tb.length ∧ tb.length ≤ 64) (A : Option Addr) (capA : Nat) (xs : List Op3) (hA : Acts3 w A xs) (hn : xs.length ≤ 512) :
    Calls Tryz.prog 63 #[.iface 89 (.pointer (some ⟨m, 0, none⟩)), .slice A xs.length capA] w (TryPost w (tryL tb.length xs)) := by
  have HF := Ai.Aside.mk hF
  have HT := Ai.Aside.mk hT
  have HA := Ai.Aside.mk hA
  have HC := Ai.Aside.mk (fcap_ok w m g cap tb hF)
  have HREP := Ai.Aside.mk (repN_ok w tb.length hl)
  have HRUN := Ai.Aside.mk (fun W (hW : Below w.heap.size w W) => runs_ok W m 512 g cap tb (hF.below hW) hT.ok (by omega))
  have HMO := Ai.Aside.mk (fun W (hW : Below w.heap.size w W) => fmost_ok W m g cap tb (hF.below hW))
  obtain ⟨rs, hrs⟩ : ∃ rs, rs = runsTo tb tb.length := ⟨_, rfl⟩
  rw [← hrs] at HRUN
  have HRS := Ai.Aside.mk (show ∀ x ∈ rs, Num tb.length x by rw [hrs]; exact (twin_of hT).1.1)
  obtain ⟨N, hN⟩ : ∃ N, N = tb.length := ⟨_, rfl⟩
  rw [← hN] at HC HREP HRS hl ⊢
  obtain ⟨n, hn2⟩ : ∃ n, n = xs.length := ⟨_, rfl⟩
  rw [← hn2] at hn ⊢
  have HN := Ai.Aside.mk hn2
  have hrl : rs.length ≤ 64 := by rw [hrs]; have := runsTo_length tb tb.length; omega
  clear hF hT hA hrs hn2 hN
  go_enter Tryz.func63, Tryz.ntmps63
  go_wp2_with (first | (go_at_call 200; go_loud (refine HC.out.mono ?_; rintro e w1 ⟨rfl, hw⟩; have hw2 := hw.symm; clear hw; subst hw2)) | (go_at_call 86; go_loud (refine HREP.out.mono ?_; rintro e w2 ⟨g2, rfl, hown, hb⟩; have HTB := Ai.Aside.mk (Tb.new hown); have HB2 := Ai.Aside.mk hb; clear hown hb)) | (go_at_call 43; go_loud (refine (HRUN.out _ HB2.out).mono ?_; rintro e w3 ⟨v3, rfl, hown, hb⟩; obtain ⟨AR, cR, rfl, hac, hge⟩ := own3 hown (num_in HRS.out (by omega)); have HO := Ai.Aside.mk (And.intro hac hge); have HB3 := Ai.Aside.mk hb; clear hown hb hac hge)))
  have HST := Ai.Aside.mk (try_start HTB.out HB2.out HB3.out)
  obtain ⟨L, hL⟩ : ∃ L, L = rs.length := ⟨_, rfl⟩
  rw [← hL] at hrl ⊢
  have HL := Ai.Aside.mk hL
  clear hL
  go_loopw [24] (fun v24 wr => ∃ (k : Nat), k ≤ L ∧ v24 = .int .i64 k ∧ Ai.Aside (TrySt w w3 g2 N wr)) (fun v24 _ => L - (intOf v24).toNat)
  case atStart => exact ⟨0, by omega, rfl, HST⟩
  case round =>
    obtain ⟨k, hk, rfl, HR⟩ := hrel
    clear HST
    by_cases hlt : k < L
    · obtain ⟨x, hx⟩ : ∃ x, rs[k]? = some x := ⟨_, List.getElem?_eq_getElem (by rw [← HL.out]; exact hlt)⟩
      have HX := Ai.Aside.mk (HRS.out x (List.mem_of_getElem? hx))
      obtain ⟨b, off, rfl, hb, hcells⟩ := (acts_modB HO.out.1 HR.out.mod (fun b off e => by have := HO.out.2 b off e; have := HTB.out.2.1; omega)).2 (by rw [← HL.out]; omega)
      obtain ⟨hw0, hw1, hw2⟩ := hcells k x hx
      clear hcells hb hx
      go_upto_region 7 with fail
      obtain ⟨l, nn, p⟩ := x
      simp only at hw0 hw1 hw2
      have HX2 := HX.out
      unfold Num at HX2
      simp only at HX2
      obtain ⟨nx, rfl⟩ := Int.eq_ofNat_of_zero_le (show 0 ≤ nn by omega)
      obtain ⟨lx, rfl⟩ := Int.eq_ofNat_of_zero_le (show 0 ≤ l by omega)
      have HR4 := Ai.Aside.mk (try_alloc HR.out (.cells #[.int .i64 lx, .int .i64 nx, .int .i64 p] 94))
      have HC4 := Ai.Aside.mk (three_at wr (.int .i64 lx) (.int .i64 nx) (.int .i64 p) 94)
      obtain ⟨b8, hb8⟩ : ∃ b, b = wr.heap.size := ⟨_, rfl⟩
      have HN8 := Ai.Aside.mk (show b8 ≠ g2 by rw [hb8]; have := HR.out.tb.2.1; omega)
      rw [← hb8] at HC4 ⊢
      clear hb8 hw0 hw1 hw2 HR
      generalize World.alloc wr _ = w4 at HR4 HC4 ⊢
      clear HX
      go_loopw [30] (fun v30 wr2 => ∃ (j : Nat), j ≤ nx ∧ v30 = .int .i64 j ∧ Ai.Aside (TrySt w w3 g2 N wr2 ∧ ModB (At g2) w4 wr2)) (fun v30 _ => nx - (intOf v30).toNat)
      case atStart => exact ⟨0, by omega, rfl, ⟨HR4.out, ModB.refl _ _⟩⟩
      case round =>
        obtain ⟨j, hj, rfl, HI⟩ := hrel
        have f0 := HI.out.2.cell HC4.out.1 HN8.out
        have f1 := HI.out.2.cell HC4.out.2.1 HN8.out
        have f2 := HI.out.2.cell HC4.out.2.2 HN8.out
        by_cases hjl : j < nx
        · obtain ⟨vc, hc1, -, -, hfz⟩ := HI.out.1.tb.get (i := lx + j) (by omega)
          have hw1 : IntKind.i64.wrap ((lx : Int) + j) = ((lx + j : Nat) : Int) := by rw [IntKind.wrap_i64]; omega
          have hw2 : IntKind.i64.wrap (p + (j : Int)) = p + j := by rw [IntKind.wrap_i64]; omega
          have HI2 := Ai.Aside.mk (try_set HI.out.1 (lx + j) (v := p + j) (by omega))
          have HM2 := Ai.Aside.mk (HI.out.2.trans (modB_at wr g2 (lx + j) (.int .i64 (p + j))))
          have hlN : lx + j < N := by omega
          go_wp2_with fail
          go_roundw
          case rel => exact ⟨j + 1, by omega, by go_num, ⟨HI2.out, HM2.out⟩⟩
          case measure => simp [intOf]; omega
        · obtain rfl : j = nx := by omega
          go_wp2_with fail
          go_roundw
          case rel => exact ⟨k + 1, by omega, by go_num, ⟨HI.out.1⟩⟩
          case measure => simp [intOf]; omega
    · obtain rfl : k = L := by omega
      clear HO HRS HL
      go_wp2_with fail
      go_loopw [47] (fun v47 wr => ∃ (i : Nat), i ≤ n ∧ v47 = .int .i64 i ∧ Ai.Aside (TrySt w w3 g2 N wr ∧ ∀ y ∈ xs.take i, okOp N y = true)) (fun v47 _ => n - (intOf v47).toNat)
      case atStart => exact ⟨0, by omega, rfl, ⟨HR.out, by simp⟩⟩
      case round =>
        obtain ⟨i, hi, rfl, HR⟩ := hrel
        by_cases hlt2 : i < n
        · obtain ⟨x, hx⟩ : ∃ x, xs[i]? = some x := ⟨_, List.getElem?_eq_getElem (by rw [← HN.out]; exact hlt2)⟩
          have hxm := List.mem_of_getElem? hx
          obtain ⟨b, off, rfl, hb, hcells⟩ := HA.out.2 (by rw [← HN.out]; omega)
          obtain ⟨hw0, hw1, hw2⟩ := cells_at hcells hb HR.out.1.below i x hx
          have HXI := Ai.Aside.mk (HA.out.1 x hxm)
          have HX := Ai.Aside.mk (And.intro hx hxm)
          clear hcells hb hx hxm
          obtain ⟨l, nn, p⟩ := x
          simp only at hw0 hw1 hw2
          have HR4 := Ai.Aside.mk (try_alloc HR.out.1 (.cells #[.int .i64 l, .int .i64 nn, .int .i64 p] 42))
          have HC4 := Ai.Aside.mk (three_at wr (.int .i64 l) (.int .i64 nn) (.int .i64 p) 42)
          obtain ⟨b8, hb8⟩ : ∃ b, b = wr.heap.size := ⟨_, rfl⟩
          have HN8 := Ai.Aside.mk (show b8 ≠ g2 by rw [hb8]; have := HR.out.1.tb.2.1; omega)
          have HTK := Ai.Aside.mk HR.out.2
          go_upto_region 15 with fail
          rw [← hb8] at HC4 ⊢
          clear hb8 hw0 hw1 hw2 HR
          generalize World.alloc wr _ = w4 at HR4 HC4 ⊢
          have f0 := HC4.out.1
          have f1 := HC4.out.2.1
          have f2 := HC4.out.2.2
          obtain ⟨r, hr⟩ : ∃ r, r = tryL N xs := ⟨_, rfl⟩
          have HXI1 := HXI.out.1
          have HXI2 := HXI.out.2.1
          have HXI3 := HXI.out.2.2
          unfold inI at HXI1 HXI2 HXI3
          simp only at HXI1 HXI2 HXI3
          by_cases hok : 1 ≤ nn ∧ nn ≤ N ∧ 0 ≤ l ∧ l ≤ N - nn ∧ -1 ≤ p ∧ p ≤ 1048576
          · obtain ⟨o1, o2, o3, o4, o5, o6⟩ := hok
            have hw1 : IntKind.i64.wrap ((N : Int) - nn) = N - nn := by rw [IntKind.wrap_i64]; omega
            obtain ⟨nx, rfl⟩ := Int.eq_ofNat_of_zero_le (show 0 ≤ nn by omega)
            obtain ⟨lx, rfl⟩ := Int.eq_ofNat_of_zero_le o3
            have HOK := Ai.Aside.mk (show okOp N ⟨lx, nx, p⟩ = true from decide_eq_true ⟨o1, o2, o3, o4, o5, o6⟩)
            have hn8 := HN8.out
            go_wp2_with fail
            go_loopw [86] (fun v86 wr2 => ∃ (j : Nat), j ≤ nx ∧ v86 = .int .i64 j ∧ Ai.Aside (TrySt w w3 g2 N wr2 ∧ ModB (At g2) w4 wr2)) (fun v86 _ => nx - (intOf v86).toNat)
            case atStart => exact ⟨0, by omega, rfl, ⟨HR4.out, ModB.refl _ _⟩⟩
            case round =>
              obtain ⟨j, hj, rfl, HI⟩ := hrel
              clear f0 f1 f2
              have f0 := HI.out.2.cell HC4.out.1 HN8.out
              have f1 := HI.out.2.cell HC4.out.2.1 HN8.out
              have f2 := HI.out.2.cell HC4.out.2.2 HN8.out
              by_cases hjl : j < nx
              · obtain ⟨vc, hc1, -, -, hfz⟩ := HI.out.1.tb.get (i := lx + j) (by omega)
                have hw1 : IntKind.i64.wrap ((lx : Int) + j) = ((lx + j : Nat) : Int) := by rw [IntKind.wrap_i64]; omega
                have hw2 : IntKind.i64.wrap (p + (j : Int)) = p + j := by rw [IntKind.wrap_i64]; omega
                have HI1 := Ai.Aside.mk (try_set HI.out.1 (lx + j) (v := -1) (by omega))
                have HM1 := Ai.Aside.mk (HI.out.2.trans (modB_at wr g2 (lx + j) (.int .i64 (-1))))
                have hlN : lx + j < N := by omega
                go_upto_region 21 with fail
                clear HI f0 f1 f2 hc1 hfz
                generalize World.setCell wr _ _ = W1 at HI1 HM1 ⊢
                have f0 := HM1.out.cell HC4.out.1 HN8.out
                have f1 := HM1.out.cell HC4.out.2.1 HN8.out
                have f2 := HM1.out.cell HC4.out.2.2 HN8.out
                obtain ⟨vc2, hc1, -, -, hfz⟩ := HI1.out.tb.get (i := lx + j) (by omega)
                by_cases hp0 : 0 ≤ p
                · have HI2 := Ai.Aside.mk (try_set HI1.out (lx + j) (v := p + j) (by omega))
                  have HM2 := Ai.Aside.mk (HM1.out.trans (modB_at W1 g2 (lx + j) (.int .i64 (p + j))))
                  go_wp2_with fail
                  go_roundw
                  case rel => exact ⟨j + 1, by omega, by go_num, ⟨HI2.out, HM2.out⟩⟩
                  case measure => simp [intOf]; omega
                · go_wp2_with fail
                  go_roundw
                  case rel => exact ⟨j + 1, by omega, by go_num, ⟨HI1.out, HM1.out⟩⟩
                  case measure => simp [intOf]; omega
              · obtain rfl : j = nx := by omega
                clear f0 f1 f2
                have HI0 := Ai.Aside.mk HI.out.1
                clear HI HR4 HC4 HN8 hn8
                go_wp2_with fail
                go_loopw [111, 13] (fun v111 v13 wr2 => ∃ (j2 c : Nat), j2 ≤ N ∧ v111 = .int .i64 j2 ∧ v13 = .int .i64 c ∧ c ≤ j2 ∧ Ai.Aside (TrySt w w3 g2 N wr2)) (fun v111 _ _ => N - (intOf v111).toNat)
                case atStart => exact ⟨0, 0, by omega, rfl, rfl, by omega, HI0⟩
                case round =>
                  obtain ⟨j2, c, hj2, rfl, rfl, hc, HI⟩ := hrel
                  clear HI0
                  by_cases hjl : j2 < N
                  · obtain ⟨v, hv, hv1, hv2, -⟩ := HI.out.tb.get (i := j2) hjl
                    by_cases h0 : 0 ≤ v
                    · cases j2 with
                      | zero =>
                        have hv' : wr.cell? ⟨g2, 0, none⟩ = some (.int .i64 v) := hv
                        go_wp2_with fail
                        go_roundw
                        case rel => exact ⟨1, c + 1, by omega, by go_num, by go_num, by omega, HI⟩
                        case measure => simp [intOf]; omega
                      | succ j3 =>
                        obtain ⟨pv, hpv, hp1, hp2, -⟩ := HI.out.tb.get (i := j3) (by omega)
                        have hj1 : IntKind.i64.wrap (((j3 + 1 : Nat) : Int) - 1) = (j3 : Int) := by rw [IntKind.wrap_i64]; omega
                        have hnz : (((j3 + 1 : Nat) : Int) == 0) = false := by simp; omega
                        by_cases h1 : pv < 0
                        · go_wp2_with fail
                          go_roundw
                          case rel => exact ⟨j3 + 1 + 1, c + 1, by omega, by go_num, by go_num, by omega, HI⟩
                          case measure => simp [intOf]; omega
                        · go_wp2_with fail
                          all_goals first
                            | (go_roundw
                               case rel => exact ⟨j3 + 1 + 1, c, by omega, by go_num, rfl, by omega, HI⟩
                               case measure => simp [intOf]; omega)
                            | (go_roundw
                               case rel => exact ⟨j3 + 1 + 1, c + 1, by omega, by go_num, by go_num, by omega, HI⟩
                               case measure => simp [intOf]; omega)
                    · go_wp2_with fail
                      go_roundw
                      case rel => exact ⟨j2 + 1, c, by omega, by go_num, rfl, by omega, HI⟩
                      case measure => simp [intOf]; omega
                  · obtain rfl : j2 = N := by omega
                    have HM := Ai.Aside.mk (HMO.out _ HI.out.below)
                    go_wp2_with (go_at_call 204; go_loud (refine HM.out.mono ?_; rintro e w1 ⟨rfl, hw⟩; have hw2 := hw.symm; clear hw; subst hw2))
                    go_roundw
                    case rel => exact ⟨i + 1, by omega, by go_num, ⟨HI.out, try_next HTK.out HX.out.1 HOK.out⟩⟩
                    case measure => simp [intOf]; omega
          · have HBAD := Ai.Aside.mk (try_bad HX.out.2 (show okOp N ⟨l, nn, p⟩ = false from decide_eq_false hok))
            by_cases o1 : 1 ≤ nn
            · by_cases o2 : nn ≤ N
              · have hw1 : IntKind.i64.wrap ((N : Int) - nn) = N - nn := by rw [IntKind.wrap_i64]; omega
                go_wp2_with fail
                all_goals first
                  | (exfalso; omega)
                  | (go_ret; exact try_end HBAD.out HR4.out.below)
              · go_wp2_with fail
                go_ret
                exact try_end HBAD.out HR4.out.below
            · go_wp2_with fail
              go_ret
              exact try_end HBAD.out HR4.out.below
        · obtain rfl : i = n := by omega
          go_wp2_with fail
          go_ret
          exact try_end (try_all HR.out.2 HN.out) HR.out.1.below
end Lo
end Go.Proofs.YtjmhkcfdmcjilaaGreat
/- Walk of span.trial, by the map of runs (printed by genJ.py). -/
set_option linter.unusedVariables false
set_option linter.unusedSimpArgs false
namespace Go.Proofs.YtjmhkcfdmcjilaaGreat
namespace Lo
open Go.RowKit Ai Fi

set_option maxHeartbeats 8000000 in
set_option maxRecDepth 100000 in
theorem rtrial_ok (w : World) (m t a g : Nat) (Ar0 : Ar) (T : Tr) (tb : List Int) (hF : RMap w m t a g tb.length Ar0 T) (hW0 : Twin tb (T.xs.map op3)) (hT : okT tb) (hl : 1 ≤ tb.length ∧ tb.length ≤ 64) (A : Option Addr) (capA : Nat) (xs : List Op3) (hA : Acts3 w A xs) (hn : xs.length ≤ 512) :
    Calls Tryz.prog 63 #[.iface 123 (.pointer (some ⟨m, 0, none⟩)), .slice A xs.length capA] w (TryPost w (tryL tb.length xs)) := by
  have HF := Ai.Aside.mk hF
  have HT := Ai.Aside.mk hT
  have HA := Ai.Aside.mk hA
  have HC := Ai.Aside.mk (rcap_ok w m t a g tb.length Ar0 T hF)
  have HREP := Ai.Aside.mk (repN_ok w tb.length hl)
  have HRUN := Ai.Aside.mk (fun W (hW : Below w.heap.size w W) => rruns_ok W m t a g tb.length Ar0 T tb (hF.below hW) hW0 hT)
  have HMO := Ai.Aside.mk (fun W (hW : Below w.heap.size w W) => rmost_ok W m t a g tb.length Ar0 T (hF.below hW))
  obtain ⟨rs, hrs⟩ : ∃ rs, rs = runsTo tb tb.length := ⟨_, rfl⟩
  rw [← hrs] at HRUN
  have HRS := Ai.Aside.mk (show ∀ x ∈ rs, Num tb.length x by rw [hrs]; exact (twin_of hT).1.1)
  obtain ⟨N, hN⟩ : ∃ N, N = tb.length := ⟨_, rfl⟩
  rw [← hN] at HC HREP HRS hl ⊢
  obtain ⟨n, hn2⟩ : ∃ n, n = xs.length := ⟨_, rfl⟩
  rw [← hn2] at hn ⊢
  have HN := Ai.Aside.mk hn2
  have hrl : rs.length ≤ 64 := by rw [hrs]; have := runsTo_length tb tb.length; omega
  clear hF hT hA hrs hn2 hN hW0
  go_enter Tryz.func63, Tryz.ntmps63
  go_wp2_with (first | (go_at_call 207; go_loud (refine HC.out.mono ?_; rintro e w1 ⟨rfl, hw⟩; have hw2 := hw.symm; clear hw; subst hw2)) | (go_at_call 86; go_loud (refine HREP.out.mono ?_; rintro e w2 ⟨g2, rfl, hown, hb⟩; have HTB := Ai.Aside.mk (Tb.new hown); have HB2 := Ai.Aside.mk hb; clear hown hb)) | (go_at_call 213; go_loud (refine (HRUN.out _ HB2.out).mono ?_; rintro e w3 ⟨v3, rfl, hown, hb⟩; obtain ⟨AR, cR, rfl, hac, hge⟩ := own3 hown (num_in HRS.out (by omega)); have HO := Ai.Aside.mk (And.intro hac hge); have HB3 := Ai.Aside.mk hb; clear hown hb hac hge)))
  have HST := Ai.Aside.mk (try_start HTB.out HB2.out HB3.out)
  obtain ⟨L, hL⟩ : ∃ L, L = rs.length := ⟨_, rfl⟩
  rw [← hL] at hrl ⊢
  have HL := Ai.Aside.mk hL
  clear hL
  go_loopw [24] (fun v24 wr => ∃ (k : Nat), k ≤ L ∧ v24 = .int .i64 k ∧ Ai.Aside (TrySt w w3 g2 N wr)) (fun v24 _ => L - (intOf v24).toNat)
  case atStart => exact ⟨0, by omega, rfl, HST⟩
  case round =>
    obtain ⟨k, hk, rfl, HR⟩ := hrel
    clear HST
    by_cases hlt : k < L
    · obtain ⟨x, hx⟩ : ∃ x, rs[k]? = some x := ⟨_, List.getElem?_eq_getElem (by rw [← HL.out]; exact hlt)⟩
      have HX := Ai.Aside.mk (HRS.out x (List.mem_of_getElem? hx))
      obtain ⟨b, off, rfl, hb, hcells⟩ := (acts_modB HO.out.1 HR.out.mod (fun b off e => by have := HO.out.2 b off e; have := HTB.out.2.1; omega)).2 (by rw [← HL.out]; omega)
      obtain ⟨hw0, hw1, hw2⟩ := hcells k x hx
      clear hcells hb hx
      go_upto_region 7 with fail
      obtain ⟨l, nn, p⟩ := x
      simp only at hw0 hw1 hw2
      have HX2 := HX.out
      unfold Num at HX2
      simp only at HX2
      obtain ⟨nx, rfl⟩ := Int.eq_ofNat_of_zero_le (show 0 ≤ nn by omega)
      obtain ⟨lx, rfl⟩ := Int.eq_ofNat_of_zero_le (show 0 ≤ l by omega)
      have HR4 := Ai.Aside.mk (try_alloc HR.out (.cells #[.int .i64 lx, .int .i64 nx, .int .i64 p] 94))
      have HC4 := Ai.Aside.mk (three_at wr (.int .i64 lx) (.int .i64 nx) (.int .i64 p) 94)
      obtain ⟨b8, hb8⟩ : ∃ b, b = wr.heap.size := ⟨_, rfl⟩
      have HN8 := Ai.Aside.mk (show b8 ≠ g2 by rw [hb8]; have := HR.out.tb.2.1; omega)
      rw [← hb8] at HC4 ⊢
      clear hb8 hw0 hw1 hw2 HR
      generalize World.alloc wr _ = w4 at HR4 HC4 ⊢
      clear HX
      go_loopw [30] (fun v30 wr2 => ∃ (j : Nat), j ≤ nx ∧ v30 = .int .i64 j ∧ Ai.Aside (TrySt w w3 g2 N wr2 ∧ ModB (At g2) w4 wr2)) (fun v30 _ => nx - (intOf v30).toNat)
      case atStart => exact ⟨0, by omega, rfl, ⟨HR4.out, ModB.refl _ _⟩⟩
      case round =>
        obtain ⟨j, hj, rfl, HI⟩ := hrel
        have f0 := HI.out.2.cell HC4.out.1 HN8.out
        have f1 := HI.out.2.cell HC4.out.2.1 HN8.out
        have f2 := HI.out.2.cell HC4.out.2.2 HN8.out
        by_cases hjl : j < nx
        · obtain ⟨vc, hc1, -, -, hfz⟩ := HI.out.1.tb.get (i := lx + j) (by omega)
          have hw1 : IntKind.i64.wrap ((lx : Int) + j) = ((lx + j : Nat) : Int) := by rw [IntKind.wrap_i64]; omega
          have hw2 : IntKind.i64.wrap (p + (j : Int)) = p + j := by rw [IntKind.wrap_i64]; omega
          have HI2 := Ai.Aside.mk (try_set HI.out.1 (lx + j) (v := p + j) (by omega))
          have HM2 := Ai.Aside.mk (HI.out.2.trans (modB_at wr g2 (lx + j) (.int .i64 (p + j))))
          have hlN : lx + j < N := by omega
          go_wp2_with fail
          go_roundw
          case rel => exact ⟨j + 1, by omega, by go_num, ⟨HI2.out, HM2.out⟩⟩
          case measure => simp [intOf]; omega
        · obtain rfl : j = nx := by omega
          go_wp2_with fail
          go_roundw
          case rel => exact ⟨k + 1, by omega, by go_num, ⟨HI.out.1⟩⟩
          case measure => simp [intOf]; omega
    · obtain rfl : k = L := by omega
      clear HO HRS HL
      go_wp2_with fail
      go_loopw [47] (fun v47 wr => ∃ (i : Nat), i ≤ n ∧ v47 = .int .i64 i ∧ Ai.Aside (TrySt w w3 g2 N wr ∧ ∀ y ∈ xs.take i, okOp N y = true)) (fun v47 _ => n - (intOf v47).toNat)
      case atStart => exact ⟨0, by omega, rfl, ⟨HR.out, by simp⟩⟩
      case round =>
        obtain ⟨i, hi, rfl, HR⟩ := hrel
        by_cases hlt2 : i < n
        · obtain ⟨x, hx⟩ : ∃ x, xs[i]? = some x := ⟨_, List.getElem?_eq_getElem (by rw [← HN.out]; exact hlt2)⟩
          have hxm := List.mem_of_getElem? hx
          obtain ⟨b, off, rfl, hb, hcells⟩ := HA.out.2 (by rw [← HN.out]; omega)
          obtain ⟨hw0, hw1, hw2⟩ := cells_at hcells hb HR.out.1.below i x hx
          have HXI := Ai.Aside.mk (HA.out.1 x hxm)
          have HX := Ai.Aside.mk (And.intro hx hxm)
          clear hcells hb hx hxm
          obtain ⟨l, nn, p⟩ := x
          simp only at hw0 hw1 hw2
          have HR4 := Ai.Aside.mk (try_alloc HR.out.1 (.cells #[.int .i64 l, .int .i64 nn, .int .i64 p] 42))
          have HC4 := Ai.Aside.mk (three_at wr (.int .i64 l) (.int .i64 nn) (.int .i64 p) 42)
          obtain ⟨b8, hb8⟩ : ∃ b, b = wr.heap.size := ⟨_, rfl⟩
          have HN8 := Ai.Aside.mk (show b8 ≠ g2 by rw [hb8]; have := HR.out.1.tb.2.1; omega)
          have HTK := Ai.Aside.mk HR.out.2
          go_upto_region 15 with fail
          rw [← hb8] at HC4 ⊢
          clear hb8 hw0 hw1 hw2 HR
          generalize World.alloc wr _ = w4 at HR4 HC4 ⊢
          have f0 := HC4.out.1
          have f1 := HC4.out.2.1
          have f2 := HC4.out.2.2
          obtain ⟨r, hr⟩ : ∃ r, r = tryL N xs := ⟨_, rfl⟩
          have HXI1 := HXI.out.1
          have HXI2 := HXI.out.2.1
          have HXI3 := HXI.out.2.2
          unfold inI at HXI1 HXI2 HXI3
          simp only at HXI1 HXI2 HXI3
          by_cases hok : 1 ≤ nn ∧ nn ≤ N ∧ 0 ≤ l ∧ l ≤ N - nn ∧ -1 ≤ p ∧ p ≤ 1048576
          · obtain ⟨o1, o2, o3, o4, o5, o6⟩ := hok
            have hw1 : IntKind.i64.wrap ((N : Int) - nn) = N - nn := by rw [IntKind.wrap_i64]; omega
            obtain ⟨nx, rfl⟩ := Int.eq_ofNat_of_zero_le (show 0 ≤ nn by omega)
            obtain ⟨lx, rfl⟩ := Int.eq_ofNat_of_zero_le o3
            have HOK := Ai.Aside.mk (show okOp N ⟨lx, nx, p⟩ = true from decide_eq_true ⟨o1, o2, o3, o4, o5, o6⟩)
            have hn8 := HN8.out
            go_wp2_with fail
            go_loopw [86] (fun v86 wr2 => ∃ (j : Nat), j ≤ nx ∧ v86 = .int .i64 j ∧ Ai.Aside (TrySt w w3 g2 N wr2 ∧ ModB (At g2) w4 wr2)) (fun v86 _ => nx - (intOf v86).toNat)
            case atStart => exact ⟨0, by omega, rfl, ⟨HR4.out, ModB.refl _ _⟩⟩
            case round =>
              obtain ⟨j, hj, rfl, HI⟩ := hrel
              clear f0 f1 f2
              have f0 := HI.out.2.cell HC4.out.1 HN8.out
              have f1 := HI.out.2.cell HC4.out.2.1 HN8.out
              have f2 := HI.out.2.cell HC4.out.2.2 HN8.out
              by_cases hjl : j < nx
              · obtain ⟨vc, hc1, -, -, hfz⟩ := HI.out.1.tb.get (i := lx + j) (by omega)
                have hw1 : IntKind.i64.wrap ((lx : Int) + j) = ((lx + j : Nat) : Int) := by rw [IntKind.wrap_i64]; omega
                have hw2 : IntKind.i64.wrap (p + (j : Int)) = p + j := by rw [IntKind.wrap_i64]; omega
                have HI1 := Ai.Aside.mk (try_set HI.out.1 (lx + j) (v := -1) (by omega))
                have HM1 := Ai.Aside.mk (HI.out.2.trans (modB_at wr g2 (lx + j) (.int .i64 (-1))))
                have hlN : lx + j < N := by omega
                go_upto_region 21 with fail
                clear HI f0 f1 f2 hc1 hfz
                generalize World.setCell wr _ _ = W1 at HI1 HM1 ⊢
                have f0 := HM1.out.cell HC4.out.1 HN8.out
                have f1 := HM1.out.cell HC4.out.2.1 HN8.out
                have f2 := HM1.out.cell HC4.out.2.2 HN8.out
                obtain ⟨vc2, hc1, -, -, hfz⟩ := HI1.out.tb.get (i := lx + j) (by omega)
                by_cases hp0 : 0 ≤ p
                · have HI2 := Ai.Aside.mk (try_set HI1.out (lx + j) (v := p + j) (by omega))
                  have HM2 := Ai.Aside.mk (HM1.out.trans (modB_at W1 g2 (lx + j) (.int .i64 (p + j))))
                  go_wp2_with fail
                  go_roundw
                  case rel => exact ⟨j + 1, by omega, by go_num, ⟨HI2.out, HM2.out⟩⟩
                  case measure => simp [intOf]; omega
                · go_wp2_with fail
                  go_roundw
                  case rel => exact ⟨j + 1, by omega, by go_num, ⟨HI1.out, HM1.out⟩⟩
                  case measure => simp [intOf]; omega
              · obtain rfl : j = nx := by omega
                clear f0 f1 f2
                have HI0 := Ai.Aside.mk HI.out.1
                clear HI HR4 HC4 HN8 hn8
                go_wp2_with fail
                go_loopw [111, 13] (fun v111 v13 wr2 => ∃ (j2 c : Nat), j2 ≤ N ∧ v111 = .int .i64 j2 ∧ v13 = .int .i64 c ∧ c ≤ j2 ∧ Ai.Aside (TrySt w w3 g2 N wr2)) (fun v111 _ _ => N - (intOf v111).toNat)
                case atStart => exact ⟨0, 0, by omega, rfl, rfl, by omega, HI0⟩
                case round =>
                  obtain ⟨j2, c, hj2, rfl, rfl, hc, HI⟩ := hrel
                  clear HI0
                  by_cases hjl : j2 < N
                  · obtain ⟨v, hv, hv1, hv2, -⟩ := HI.out.tb.get (i := j2) hjl
                    by_cases h0 : 0 ≤ v
                    · cases j2 with
                      | zero =>
                        have hv' : wr.cell? ⟨g2, 0, none⟩ = some (.int .i64 v) := hv
                        go_wp2_with fail
                        go_roundw
                        case rel => exact ⟨1, c + 1, by omega, by go_num, by go_num, by omega, HI⟩
                        case measure => simp [intOf]; omega
                      | succ j3 =>
                        obtain ⟨pv, hpv, hp1, hp2, -⟩ := HI.out.tb.get (i := j3) (by omega)
                        have hj1 : IntKind.i64.wrap (((j3 + 1 : Nat) : Int) - 1) = (j3 : Int) := by rw [IntKind.wrap_i64]; omega
                        have hnz : (((j3 + 1 : Nat) : Int) == 0) = false := by simp; omega
                        by_cases h1 : pv < 0
                        · go_wp2_with fail
                          go_roundw
                          case rel => exact ⟨j3 + 1 + 1, c + 1, by omega, by go_num, by go_num, by omega, HI⟩
                          case measure => simp [intOf]; omega
                        · go_wp2_with fail
                          all_goals first
                            | (go_roundw
                               case rel => exact ⟨j3 + 1 + 1, c, by omega, by go_num, rfl, by omega, HI⟩
                               case measure => simp [intOf]; omega)
                            | (go_roundw
                               case rel => exact ⟨j3 + 1 + 1, c + 1, by omega, by go_num, by go_num, by omega, HI⟩
                               case measure => simp [intOf]; omega)
                    · go_wp2_with fail
                      go_roundw
                      case rel => exact ⟨j2 + 1, c, by omega, by go_num, rfl, by omega, HI⟩
                      case measure => simp [intOf]; omega
                  · obtain rfl : j2 = N := by omega
                    have HM := Ai.Aside.mk (HMO.out _ HI.out.below)
                    go_wp2_with (go_at_call 211; go_loud (refine HM.out.mono ?_; rintro e w1 ⟨rfl, hw⟩; have hw2 := hw.symm; clear hw; subst hw2))
                    go_roundw
                    case rel => exact ⟨i + 1, by omega, by go_num, ⟨HI.out, try_next HTK.out HX.out.1 HOK.out⟩⟩
                    case measure => simp [intOf]; omega
          · have HBAD := Ai.Aside.mk (try_bad HX.out.2 (show okOp N ⟨l, nn, p⟩ = false from decide_eq_false hok))
            by_cases o1 : 1 ≤ nn
            · by_cases o2 : nn ≤ N
              · have hw1 : IntKind.i64.wrap ((N : Int) - nn) = N - nn := by rw [IntKind.wrap_i64]; omega
                go_wp2_with fail
                all_goals first
                  | (exfalso; omega)
                  | (go_ret; exact try_end HBAD.out HR4.out.below)
              · go_wp2_with fail
                go_ret
                exact try_end HBAD.out HR4.out.below
            · go_wp2_with fail
              go_ret
              exact try_end HBAD.out HR4.out.below
        · obtain rfl : i = n := by omega
          go_wp2_with fail
          go_ret
          exact try_end (try_all HR.out.2 HN.out) HR.out.1.below
end Lo
end Go.Proofs.YtjmhkcfdmcjilaaGreat
/- Walks of span.Apply, by either map. -/
set_option linter.unusedVariables false
set_option linter.unusedSimpArgs false
namespace Go.Proofs.YtjmhkcfdmcjilaaGreat
namespace Lo
open Go.RowKit Ai Fi

/-- What Apply does: all of it or nothing. -/
def applyT (t : List Int) (xs : List Op3) : List Int := if xs.all (okOp t.length) then applyL t xs else t

def FApply (w : World) (m : Nat) (r : Int) (t : List Int) (e : Ending) (w' : World) : Prop := ∃ g cap, e = .returned (.int .i64 r) ∧ Mod w w' m ∧ Flat w' m 512 g cap t

theorem apply_take {t : List Int} (hl : t.length ≤ 512) (ht : okT t) : ∀ (xs : List Op3), (∀ x ∈ xs, okOp t.length x = true) → (applyL t xs).length = t.length ∧ okT (applyL t xs) := by
  intro xs
  induction xs generalizing t with
  | nil => intro _; exact ⟨rfl, ht⟩
  | cons x r ih =>
    intro h
    obtain ⟨h1, h2, h3⟩ := mapOp_ok (h x (List.mem_cons_self ..)) hl ht
    have := ih (t := (mapOp t x).1) (by omega) h3 (fun y hy => by rw [h2]; exact h y (List.mem_cons_of_mem _ hy))
    exact ⟨this.1.trans h2, this.2⟩

theorem apply_step {t : List Int} {xs : List Op3} {i : Nat} {x : Op3} (hx : xs[i]? = some x) : applyL t (xs.take (i + 1)) = (mapOp (applyL t (xs.take i)) x).1 := by
  rw [List.take_add_one, hx]
  unfold applyL
  rw [Option.toList_some, List.foldl_append]
  rfl

theorem Mod.below1 {a w w' : World} {m : Nat} (h : Mod a w m) (hb : Below w.heap.size w w') : Mod a w' m := h.trans (Mod.of_below hb m)
theorem mod_cell {w w' : World} {m : Nat} (h : Mod w w' m) (hm : m < w.heap.size) : ModB (At m) w w' := ⟨h.os, h.tape, h.output, h.size, fun k hk hn => h.block k hk hn⟩

set_option maxHeartbeats 8000000 in
set_option maxRecDepth 100000 in
theorem fapply_ok (w : World) (m g cap : Nat) (tb : List Int) (hF : Flat w m 512 g cap tb) (hT : okT tb) (hl : 1 ≤ tb.length ∧ tb.length ≤ 64) (A : Option Addr) (capA : Nat) (xs : List Op3) (hA : Acts3 w A xs) (hn : xs.length ≤ 512) (hne : 0 < xs.length → ∀ b off, A = some ⟨b, off, none⟩ → b ≠ m) :
    Calls Tryz.prog 21 #[.iface 89 (.pointer (some ⟨m, 0, none⟩)), .slice A xs.length capA] w (FApply w m (tryL tb.length xs) (applyT tb xs)) := by
  have HF := Ai.Aside.mk hF
  have HT := Ai.Aside.mk hT
  have HA := Ai.Aside.mk hA
  have HNE := Ai.Aside.mk hne
  have HL := Ai.Aside.mk hl
  have HTRY := Ai.Aside.mk (ftrial_ok w m g cap tb hF hT hl A capA xs hA hn)
  obtain ⟨n, hn2⟩ : ∃ n, n = xs.length := ⟨_, rfl⟩
  rw [← hn2] at hn HTRY ⊢
  have HN := Ai.Aside.mk hn2
  clear hF hT hA hn2 hl hne
  by_cases hall : xs.all (okOp tb.length) = true
  · have h1 : tryL tb.length xs = 0 := by unfold tryL; rw [if_pos hall]
    have h2 : applyT tb xs = applyL tb xs := by unfold applyT; rw [if_pos hall]
    rw [h1] at HTRY ⊢
    rw [h2]
    have HALL := Ai.Aside.mk (List.all_eq_true.1 hall)
    clear h1 h2 hall
    go_enter Tryz.func21, Tryz.ntmps21
    go_wp2_with (go_at_call 63; go_loud (refine HTRY.out.mono ?_; rintro e w1 ⟨rfl, hb⟩; have HB := Ai.Aside.mk hb; clear hb))
    go_loopw [17] (fun v17 wr => ∃ (k : Nat), k ≤ n ∧ v17 = .int .i64 k ∧ Ai.Aside (Mod w wr m ∧ ∃ g' c', Flat wr m 512 g' c' (applyL tb (xs.take k)))) (fun v17 _ => n - (intOf v17).toNat)
    case atStart => exact ⟨0, by omega, rfl, ⟨Mod.of_below HB.out m, g, cap, HF.out.below HB.out⟩⟩
    case round =>
      obtain ⟨k, hk, rfl, HR⟩ := hrel
      by_cases hlt : k < n
      · obtain ⟨x, hx⟩ : ∃ x, xs[k]? = some x := ⟨_, List.getElem?_eq_getElem (by rw [← HN.out]; exact hlt)⟩
        obtain ⟨b, off, rfl, hb, hcells⟩ := (acts_modB HA.out (mod_cell HR.out.1 HF.out.ltm) (HNE.out (by rw [← HN.out]; omega))).2 (by rw [← HN.out]; omega)
        obtain ⟨hw0, hw1, hw2⟩ := hcells k x hx
        have hxm := List.mem_of_getElem? hx
        obtain ⟨g', c', hf⟩ := HR.out.2
        have hpre := apply_take (t := tb) (by have := HL.out.2; omega) HT.out (xs.take k) (fun y hy => HALL.out y (List.mem_of_mem_take hy))
        have hop := mapOp_ok (t := applyL tb (xs.take k)) (x := x) (by rw [hpre.1]; exact HALL.out x hxm) (by rw [hpre.1]; have := HL.out.2; omega) hpre.2
        have HS := Ai.Aside.mk (apply_step (t := tb) hx)
        have HCH := Ai.Aside.mk (fun W (hW : Below wr.heap.size wr W) => fchange_ok W m g' c' _ (hf.below hW) hpre.2.ok (by rw [hpre.1]; have := HL.out.2; omega) x)
        have HM := Ai.Aside.mk HR.out.1
        have HOP := Ai.Aside.mk hop.1
        clear hop hpre hf hcells hb hx hxm HR
        have HAL := Ai.Aside.mk ((Below.refl wr.heap.size wr).alloc (Nat.le_refl _) (.cells #[.int .i64 x.l, .int .i64 x.n, .int .i64 x.p] 42))
        have HC := Ai.Aside.mk (HCH.out _ HAL.out)
        unfold FPost at HC
        rw [HOP.out] at HC
        go_wp2_with (go_at_call 64; go_loud (refine HC.out.mono ?_; rintro e w1 ⟨g2, c2, rfl, hmod, hfl⟩; have HM2 := Ai.Aside.mk hmod; have HFL := Ai.Aside.mk hfl; clear hmod hfl))
        go_roundw
        case rel => exact ⟨k + 1, by omega, by go_num, ⟨(Mod.below1 HM.out HAL.out).trans HM2.out, g2, c2, by rw [HS.out]; exact HFL.out⟩⟩
        case measure => simp [intOf]; omega
      · obtain rfl : k = n := by omega
        go_wp2_with fail
        go_ret
        obtain ⟨g', c', hf⟩ := HR.out.2
        rw [HN.out, List.take_length] at hf
        exact ⟨g', c', rfl, HR.out.1, hf⟩
  · have h1 : tryL tb.length xs = 1 := by unfold tryL; rw [if_neg hall]
    have h2 : applyT tb xs = tb := by unfold applyT; rw [if_neg hall]
    rw [h1] at HTRY ⊢
    rw [h2]
    clear h1 h2 hall
    go_enter Tryz.func21, Tryz.ntmps21
    go_wp2_with (go_at_call 63; go_loud (refine HTRY.out.mono ?_; rintro e w1 ⟨rfl, hb⟩; have HB := Ai.Aside.mk hb; clear hb))
    go_ret
    exact ⟨g, cap, rfl, Mod.of_below HB.out m, HF.out.below HB.out⟩
end Lo
end Go.Proofs.YtjmhkcfdmcjilaaGreat
/- Walk of span.Apply, by the map of runs. -/
set_option linter.unusedVariables false
set_option linter.unusedSimpArgs false
namespace Go.Proofs.YtjmhkcfdmcjilaaGreat
namespace Lo
open Go.RowKit Ai Fi

theorem acts_modS {w W : World} {S : Nat → Prop} {A : Option Addr} {xs : List Op3} (h : Acts3 w A xs) (hm : ModB S w W) (hg : ∀ b off, A = some ⟨b, off, none⟩ → ¬ S b) : Acts3 W A xs :=
  ⟨h.1, fun h0 => by
    obtain ⟨b, off, h1, h2, h3⟩ := h.2 h0
    refine ⟨b, off, h1, Nat.lt_of_lt_of_le h2 hm.size, fun i x hx => ?_⟩
    obtain ⟨k1, k2, k3⟩ := h3 i x hx
    have hne := hg b off h1
    exact ⟨hm.cell k1 hne, hm.cell k2 hne, hm.cell k3 hne⟩⟩

set_option maxHeartbeats 8000000 in
set_option maxRecDepth 100000 in
theorem rapply_ok (w : World) (m t a g : Nat) (Ar0 : Ar) (T : Tr) (tb : List Int) (hF : RMap w m t a g tb.length Ar0 T) (hW0 : Twin tb (T.xs.map op3)) (hT : okT tb) (hl : 1 ≤ tb.length ∧ tb.length ≤ 64) (A : Option Addr) (capA : Nat) (xs : List Op3) (hA : Acts3 w A xs) (hn : xs.length ≤ 512) (hne : 0 < xs.length → ∀ b off, A = some ⟨b, off, none⟩ → ¬ TS t a g b) :
    Calls Tryz.prog 21 #[.iface 123 (.pointer (some ⟨m, 0, none⟩)), .slice A xs.length capA] w (RPost w m t a g tb.length (applyT tb xs, tryL tb.length xs)) := by
  have HF := Ai.Aside.mk hF
  have HW0 := Ai.Aside.mk hW0
  have HT := Ai.Aside.mk hT
  have HA := Ai.Aside.mk hA
  have HNE := Ai.Aside.mk hne
  have HL := Ai.Aside.mk hl
  have HTRY := Ai.Aside.mk (rtrial_ok w m t a g Ar0 T tb hF hW0 hT hl A capA xs hA hn)
  obtain ⟨n, hn2⟩ : ∃ n, n = xs.length := ⟨_, rfl⟩
  rw [← hn2] at hn HTRY ⊢
  have HN := Ai.Aside.mk hn2
  clear hF hW0 hT hA hn2 hl hne
  by_cases hall : xs.all (okOp tb.length) = true
  · have h1 : tryL tb.length xs = 0 := by unfold tryL; rw [if_pos hall]
    have h2 : applyT tb xs = applyL tb xs := by unfold applyT; rw [if_pos hall]
    rw [h1] at HTRY ⊢
    rw [h2]
    have HALL := Ai.Aside.mk (List.all_eq_true.1 hall)
    clear h1 h2 hall
    go_enter Tryz.func21, Tryz.ntmps21
    go_wp2_with (go_at_call 63; go_loud (refine HTRY.out.mono ?_; rintro e w1 ⟨rfl, hb⟩; have HB := Ai.Aside.mk hb; clear hb))
    go_loopw [17] (fun v17 wr => ∃ (k : Nat), k ≤ n ∧ v17 = .int .i64 k ∧ Ai.Aside (ModB (TS t a g) w wr ∧ ∃ A' T', RMap wr m t a g tb.length A' T' ∧ Twin (applyL tb (xs.take k)) (T'.xs.map op3))) (fun v17 _ => n - (intOf v17).toNat)
    case atStart => exact ⟨0, by omega, rfl, ⟨ModB.of_below HB.out _, Ar0, T, HF.out.below HB.out, HW0.out⟩⟩
    case round =>
      obtain ⟨k, hk, rfl, HR⟩ := hrel
      by_cases hlt : k < n
      · obtain ⟨x, hx⟩ : ∃ x, xs[k]? = some x := ⟨_, List.getElem?_eq_getElem (by rw [← HN.out]; exact hlt)⟩
        obtain ⟨b, off, rfl, hb, hcells⟩ := (acts_modS HA.out HR.out.1 (HNE.out (by rw [← HN.out]; omega))).2 (by rw [← HN.out]; omega)
        obtain ⟨hw0, hw1, hw2⟩ := hcells k x hx
        have hxm := List.mem_of_getElem? hx
        obtain ⟨A', T', hf, htw⟩ := HR.out.2
        have hpre := apply_take (t := tb) (by have := HL.out.2; omega) HT.out (xs.take k) (fun y hy => HALL.out y (List.mem_of_mem_take hy))
        have hop := mapOp_ok (t := applyL tb (xs.take k)) (x := x) (by rw [hpre.1]; exact HALL.out x hxm) (by rw [hpre.1]; have := HL.out.2; omega) hpre.2
        have HS := Ai.Aside.mk (apply_step (t := tb) hx)
        have HCH := Ai.Aside.mk (fun W (hW : Below wr.heap.size wr W) => rchange_ok W m t a g A' T' _ (by rw [hpre.1]; exact hf.below hW) htw (by rw [hpre.1]; have := HL.out; omega) x)
        have HM := Ai.Aside.mk HR.out.1
        have HOP := Ai.Aside.mk hop.1
        have HPR := Ai.Aside.mk hpre.1
        clear hop hpre hf htw hcells hb hx hxm HR
        have HAL := Ai.Aside.mk ((Below.refl wr.heap.size wr).alloc (Nat.le_refl _) (.cells #[.int .i64 x.l, .int .i64 x.n, .int .i64 x.p] 42))
        have HC := Ai.Aside.mk (HCH.out _ HAL.out)
        unfold RPost at HC
        rw [HOP.out, HPR.out] at HC
        go_wp2_with (go_at_call 64; go_loud (refine HC.out.mono ?_; rintro e w1 ⟨rfl, hmod, hfl⟩; have HM2 := Ai.Aside.mk hmod; have HFL := Ai.Aside.mk hfl; clear hmod hfl))
        go_roundw
        case rel => exact ⟨k + 1, by omega, by go_num, ⟨(HM.out.below1 HAL.out).trans HM2.out, by rw [HS.out]; exact HFL.out⟩⟩
        case measure => simp [intOf]; omega
      · obtain rfl : k = n := by omega
        go_wp2_with fail
        go_ret
        obtain ⟨A', T', hf, htw⟩ := HR.out.2
        rw [HN.out, List.take_length] at htw
        exact ⟨rfl, HR.out.1, A', T', hf, htw⟩
  · have h1 : tryL tb.length xs = 1 := by unfold tryL; rw [if_neg hall]
    have h2 : applyT tb xs = tb := by unfold applyT; rw [if_neg hall]
    rw [h1] at HTRY ⊢
    rw [h2]
    clear h1 h2 hall
    go_enter Tryz.func21, Tryz.ntmps21
    go_wp2_with (go_at_call 63; go_loud (refine HTRY.out.mono ?_; rintro e w1 ⟨rfl, hb⟩; have HB := Ai.Aside.mk hb; clear hb))
    go_ret
    exact ⟨rfl, ModB.of_below HB.out _, Ar0, T, HF.out.below HB.out, HW0.out⟩
end Lo
end Go.Proofs.YtjmhkcfdmcjilaaGreat
/- Walks of span.New. -/
set_option linter.unusedVariables false
set_option linter.unusedSimpArgs false
namespace Go.Proofs.YtjmhkcfdmcjilaaGreat
namespace Lo
open Go.RowKit Ai Fi

def SNewF (w : World) (N : Nat) (e : Ending) (w' : World) : Prop := ∃ m g, e = .returned (.tuple #[.iface 89 (.pointer (some ⟨m, 0, none⟩)), .int .i64 0]) ∧ w.heap.size ≤ m ∧ Flat w' m 512 g N (List.replicate N (-1)) ∧ Below w.heap.size w w'

set_option maxHeartbeats 4000000 in
set_option maxRecDepth 100000 in
theorem snewF_ok (w : World) (N : Nat) (hn : 1 ≤ N ∧ N ≤ 64) : Calls Tryz.prog 20 #[.bool true, .int .i64 N, .int .i64 512] w (SNewF w N) := by
  have HN := Ai.Aside.mk (newN_ok w N hn)
  go_enter Tryz.func20, Tryz.ntmps20
  go_wp2_with (go_at_call 41; go_loud (refine HN.out.mono ?_; rintro e w1 ⟨m, g, rfl, hm, hf, hb⟩; have HM := Ai.Aside.mk hm; have HF := Ai.Aside.mk hf; have HB := Ai.Aside.mk hb; clear hm hf hb))
  go_ret2
  exact ⟨m, g, rfl, HM.out, HF.out, HB.out⟩

def SNewR (w : World) (N : Nat) (e : Ending) (w' : World) : Prop := ∃ m t a g, e = .returned (.tuple #[.iface 123 (.pointer (some ⟨m, 0, none⟩)), .int .i64 0]) ∧ Below w.heap.size w w' ∧ w.heap.size ≤ m ∧ w.heap.size ≤ t ∧ w.heap.size ≤ a ∧ w.heap.size ≤ g ∧ RMap w' m t a g N (fresh 512) .nil

set_option maxHeartbeats 4000000 in
set_option maxRecDepth 100000 in
theorem snewR_ok (w : World) (N : Nat) (hn : 1 ≤ N ∧ N ≤ 64) : Calls Tryz.prog 20 #[.bool false, .int .i64 N, .int .i64 512] w (SNewR w N) := by
  have HN := Ai.Aside.mk (newR_ok w N (by omega))
  go_enter Tryz.func20, Tryz.ntmps20
  go_wp2_with (go_at_call 62; go_loud (refine HN.out.mono ?_; rintro e w1 ⟨m, t, a, g, rfl, hb, h1, h2, h3, h4, h5⟩; have HB := Ai.Aside.mk hb; have H1 := Ai.Aside.mk h1; have H2 := Ai.Aside.mk h2; have H3 := Ai.Aside.mk h3; have H4 := Ai.Aside.mk h4; have H5 := Ai.Aside.mk h5; clear hb h1 h2 h3 h4 h5))
  go_ret2
  exact ⟨m, t, a, g, rfl, HB.out, H1.out, H2.out, H3.out, H4.out, H5.out⟩
end Lo
end Go.Proofs.YtjmhkcfdmcjilaaGreat
set_option linter.unusedVariables false
set_option linter.unusedSimpArgs false
namespace Go.Proofs.YtjmhkcfdmcjilaaGreat
namespace Lo
open Go.RowKit Ai Fi

def EqPost (w : World) (r : Bool) (e : Ending) (w' : World) : Prop := e = .returned (.bool r) ∧ ∃ q, w' = w.drewN q

set_option maxHeartbeats 4000000 in
set_option maxRecDepth 100000 in
theorem equal_ok (w : World) (A B : Option Addr) (cA cB : Nat) (xs : List Op3) (hA : Acts3 w A xs) (hB : Acts3 w B xs) (hn : xs.length ≤ 512) :
    Calls Tryz.prog 65 #[.slice A xs.length cA, .slice B xs.length cB] w (EqPost w true) := by
  have HA := Ai.Aside.mk hA
  have HB := Ai.Aside.mk hB
  obtain ⟨n, hn2⟩ : ∃ n, n = xs.length := ⟨_, rfl⟩
  rw [← hn2] at hn ⊢
  have HN := Ai.Aside.mk hn2
  clear hA hB hn2
  go_enter Tryz.func65, Tryz.ntmps65
  go_wp2_with fail
  go_loopw [13] (fun v13 wr => ∃ (k : Nat), k ≤ n ∧ v13 = .int .i64 k ∧ Ai.Aside (∃ q, wr = w.drewN q)) (fun v13 _ => n - (intOf v13).toNat)
  case atStart => exact ⟨0, by omega, rfl, ⟨0, rfl⟩⟩
  case round =>
    obtain ⟨k, hk, rfl, HR⟩ := hrel
    by_cases hlt : k < n
    · obtain ⟨x, hx⟩ : ∃ x, xs[k]? = some x := ⟨_, List.getElem?_eq_getElem (by rw [← HN.out]; exact hlt)⟩
      obtain ⟨b, off, rfl, hb, hcells⟩ := HA.out.2 (by rw [← HN.out]; omega)
      obtain ⟨b', off', rfl, hb', hcells'⟩ := HB.out.2 (by rw [← HN.out]; omega)
      obtain ⟨q, hq⟩ := HR.out
      have hBl : Below w.heap.size w wr := by rw [hq]; exact below_drewN (Below.refl _ _) q
      obtain ⟨hw0, hw1, hw2⟩ := cells_at hcells hb hBl k x hx
      obtain ⟨hv0, hv1, hv2⟩ := cells_at hcells' hb' hBl k x hx
      have HQ := Ai.Aside.mk hq
      clear hcells hcells' hb hb' hBl hx hq
      go_wp2_with fail
      go_quiet ((fail))
      go_wp2_with fail
      go_roundw
      case rel => exact ⟨k + 1, by omega, by go_num, ⟨drewN_trans ⟨_, HQ.out⟩ ⟨_, rfl⟩⟩⟩
      case measure => simp [intOf]; omega
    · obtain rfl : k = n := by omega
      go_wp2_with fail
      go_ret
      exact ⟨rfl, HR.out⟩
end Lo
end Go.Proofs.YtjmhkcfdmcjilaaGreat
