/- Begun by the print tool (the text of PQuoteReadsx4); the imports alone were changed -/
import Derived.Test.YtanimkkljbadpaaDoorPQuoteReadsx0
import Derived.Test.YtanimkkljbadpaaDoorH2
import Derived.Test.YtanimkkljbadpaaDoorH3
namespace Go.Proofs.YtanimkkljbadpaaDoor.PQuoteReads
open Go.RowKit Go.Proofs.YtanimkkljbadpaaDoorW.PrintWords Go.Proofs.YtanimkkljbadpaaDoorW.PrintLast Go.Proofs.YtanimkkljbadpaaDoorW.PrintMore
attribute [local go_sem] max2_int min2_int max_two min_two max_three min_three max_four min_four   -- for this text's walks alone
set_option linter.unusedVariables false
set_option linter.unusedSimpArgs false

/-! ### ferruleref5_one: function 28 -/
def ferruleref5_one.j0 : Nat → ByteArray → Int → Bool → Option (ByteArray × Int)
  | 0, _, _, _ => none
  | k + 1, x0, x24, x25 => if x25 = true then (if 1 ≤ 2 then (if 2 ≤ (x0.size : Int) then (some (x0.extract 1 2, 2)) else (none)) else (none)) else (if x24 = 110 then (some ((⟨#[10]⟩ : ByteArray), 2)) else (if x24 = 116 then (some ((⟨#[9]⟩ : ByteArray), 2)) else (if x24 = 48 then (some ((⟨#[0]⟩ : ByteArray), 2)) else (if x24 = 120 then (if 2 ≤ (x0.size : Int) then ((ferruleref5_digits.f k (x0.extract 2 x0.size) 2).bind fun t137 => (if t137 < 0 then (some ((⟨#[]⟩ : ByteArray), 0)) else (some (strOfNums (([(t137) % 256] : List Int)), 4)))) else (none)) else (if x24 = 117 then (if 2 ≤ (x0.size : Int) then ((ferruleref5_digits.f k (x0.extract 2 x0.size) 4).bind fun t141 => (if t141 < 0 then (some ((⟨#[]⟩ : ByteArray), 0)) else ((ferruleref5_raw.f t141).bind fun t142 => (some (t142, 6))))) else (none)) else (some ((⟨#[]⟩ : ByteArray), 0)))))))
def ferruleref5_one.f (k : Nat) (a0 : ByteArray) : Option (ByteArray × Int) := if 0 < (a0.size : Int) then (if (bt a0 0) = 92 then (if (a0.size : Int) < 2 then (some ((⟨#[]⟩ : ByteArray), 0)) else (if 1 < (a0.size : Int) then (if (bt a0 1) = 34 then (ferruleref5_one.j0 k a0 (bt a0 1) ((bt a0 1) == 34)) else (ferruleref5_one.j0 k a0 (bt a0 1) ((bt a0 1) == 92))) else (none))) else ((ferruleref5_Rune.f k a0).bind fun bt135 => (if 0 ≤ bt135.2 then (if bt135.2 ≤ (a0.size : Int) then (some (a0.extract 0 (bt135.2 : Int).toNat, bt135.2)) else (none)) else (none)))) else (none)
theorem ferruleref5_one.mono_l : ∀ k, (∀ y0 y1 y2, LeO (ferruleref5_one.j0 k y0 y1 y2) (ferruleref5_one.j0 (k + 1) y0 y1 y2))
  | 0 => fun _ _ _ r h => by simp [ferruleref5_one.j0] at h
  | k + 1 => by
    have ih0 := ferruleref5_one.mono_l k
    · intro y0 y1 y2
      unfold ferruleref5_one.j0
      repeat' first
      | (with_reducible exact ih0 _ _ _)
      | (with_reducible exact ferruleref5_Rune.mono _ _)
      | (with_reducible exact ferruleref5_digits.mono _ _ _)
      | (with_reducible exact LeO.refl _)
      | (with_reducible exact LeO.none _)
      | (with_reducible refine LeO.ite ?_ ?_)
      | (with_reducible refine LeO.bind ?_ (fun _ => ?_))
      | exact ih0 _ _ _
      | exact ferruleref5_Rune.mono _ _
      | exact ferruleref5_digits.mono _ _ _
      | exact LeO.none _
      | refine LeO.ite ?_ ?_
      | refine LeO.bind ?_ (fun _ => ?_)
theorem ferruleref5_one.mono : ∀ a0 k, LeO (ferruleref5_one.f k a0) (ferruleref5_one.f (k + 1) a0) := by
  intro a0 k
  have ih0 := ferruleref5_one.mono_l k
  unfold ferruleref5_one.f
  repeat' first
      | (with_reducible exact ih0 _ _ _)
      | (with_reducible exact ferruleref5_Rune.mono _ _)
      | (with_reducible exact ferruleref5_digits.mono _ _ _)
      | (with_reducible exact LeO.refl _)
      | (with_reducible exact LeO.none _)
      | (with_reducible refine LeO.ite ?_ ?_)
      | (with_reducible refine LeO.bind ?_ (fun _ => ?_))
      | exact ih0 _ _ _
      | exact ferruleref5_Rune.mono _ _
      | exact ferruleref5_digits.mono _ _ _
      | exact LeO.none _
      | refine LeO.ite ?_ ?_
      | refine LeO.bind ?_ (fun _ => ?_)
set_option maxHeartbeats 8000000 in
set_option maxRecDepth 100000 in
theorem ferruleref5_one.calls (k : Nat) (a0 : ByteArray) (r1 : ByteArray) (r2 : Int) (w : World) (h : ferruleref5_one.f k a0 = some (r1, r2)) :
    Calls Tryd.prog 28 #[.string a0] w fun e w' => e = .returned (.tuple #[.string r1, .int .i64 r2]) ∧ Below w.heap.size w w' := by
  have HB := Aside0.mk (Below.refl w.heap.size w)
  have H : (if 0 < (a0.size : Int) then (if (bt a0 0) = 92 then (if (a0.size : Int) < 2 then (some ((⟨#[]⟩ : ByteArray), 0)) else (if 1 < (a0.size : Int) then (if (bt a0 1) = 34 then (ferruleref5_one.j0 k a0 (bt a0 1) ((bt a0 1) == 34)) else (ferruleref5_one.j0 k a0 (bt a0 1) ((bt a0 1) == 92))) else (none))) else ((ferruleref5_Rune.f k a0).bind fun bt135 => (if 0 ≤ bt135.2 then (if bt135.2 ≤ (a0.size : Int) then (some (a0.extract 0 (bt135.2 : Int).toNat, bt135.2)) else (none)) else (none)))) else (none)) = some (r1, r2) := h
  clear h
  by_cases c2 : 0 < (a0.size : Int)
  · rw [if_pos c2] at H
    have c2b0 : decide (0 < (a0.size : Int)) = true := decide_eq_true c2
    have c2b1 : decide (0 < a0.size) = true := decide_eq_true (by omega)
    clear c2
    by_cases c4 : (bt a0 0) = 92
    · rw [if_pos c4] at H
      have c4b0 : ((bt a0 0) == 92) = true := beq_iff_eq.mpr c4
      have c4b1 : ((bt a0 0) != 92) = false := bne_eq_false_iff_eq.mpr c4
      clear c4
      by_cases c5 : (a0.size : Int) < 2
      · rw [if_pos c5] at H
        have c5b0 : decide ((a0.size : Int) < 2) = true := decide_eq_true c5
        have c5b1 : decide (a0.size < 2) = true := decide_eq_true (by omega)
        clear c5
        simp only [Option.some.injEq, Prod.mk.injEq] at H
        obtain ⟨rfl, rfl⟩ := H
        have p3 : 0 ≤ (0 : Int) := (by omega)
        have q3 : 0 < a0.size := (by have : (0 : Int) < (a0.size : Int) := of_decide_eq_true (by first | (with_reducible assumption) | assumption); omega)
        have hx3 : ∀ h : 0 < a0.size, ((a0[0]'h).toNat : Int) = bt a0 0 := bt_at a0 0
        clear p3
        have qi3 : (0 < (a0.size : Int)) = True := eq_true (of_decide_eq_true (by first | (with_reducible assumption) | assumption))
        replace q3 := eq_true q3
        go_enter Tryd.func28, Tryd.ntmps28
        go_wp2
        go_ret2
        exact ⟨by first | rfl | (simp [errW_none, errW_some] <;> rfl) | (simp [*, errW_none, errW_some] <;> rfl), by repeat (first | (with_reducible first | exact HB.out | apply below_alloc | apply pw_below_drewN | apply below_drew1) | exact HB.out)⟩
      · rw [if_neg c5] at H
        have c5b0 : decide ((a0.size : Int) < 2) = false := decide_eq_false c5
        have c5b1 : decide (a0.size < 2) = false := decide_eq_false (by omega)
        clear c5
        by_cases c6 : 1 < (a0.size : Int)
        · rw [if_pos c6] at H
          have c6b0 : decide (1 < (a0.size : Int)) = true := decide_eq_true c6
          have c6b1 : decide (1 < a0.size) = true := decide_eq_true (by omega)
          clear c6
          have HC8 := Aside0.mk H
          clear H
          have p3 : 0 ≤ (0 : Int) := (by omega)
          have q3 : 0 < a0.size := (by have : (0 : Int) < (a0.size : Int) := of_decide_eq_true (by first | (with_reducible assumption) | assumption); omega)
          have hx3 : ∀ h : 0 < a0.size, ((a0[0]'h).toNat : Int) = bt a0 0 := bt_at a0 0
          clear p3
          have qi3 : (0 < (a0.size : Int)) = True := eq_true (of_decide_eq_true (by first | (with_reducible assumption) | assumption))
          replace q3 := eq_true q3
          have p7 : 0 ≤ (1 : Int) := (by omega)
          have q7 : 1 < a0.size := (by have : (1 : Int) < (a0.size : Int) := of_decide_eq_true (by first | (with_reducible assumption) | assumption); omega)
          have hx7 : ∀ h : 1 < a0.size, ((a0[1]'h).toNat : Int) = bt a0 1 := bt_at a0 1
          clear p7
          have qi7 : (1 < (a0.size : Int)) = True := eq_true (of_decide_eq_true (by first | (with_reducible assumption) | assumption))
          replace q7 := eq_true q7
          go_enter Tryd.func28, Tryd.ntmps28
          go_upto_if 25 with (fail)
          go_cut [25] (fun v25 wc => ∃ (kq : Nat) (x25_7 : Bool), v25 = .bool x25_7 ∧ Aside0 (ferruleref5_one.j0 kq a0 (bt a0 1) x25_7 = some (r1, r2)) ∧ Aside0 (kq ≤ k) ∧ Aside0 (Below w.heap.size w wc))
          case first =>
            have H := HC8.out
            clear HC8
            by_cases c9 : (bt a0 1) = 34
            · rw [if_pos c9] at H
              have c9b0 : ((bt a0 1) == 34) = true := beq_iff_eq.mpr c9
              have c9b1 : ((bt a0 1) != 34) = false := bne_eq_false_iff_eq.mpr c9
              clear c9
              (first | rw [c9b0] | (simp only [i64_w, i32_w]; rw [c9b0]) | skip)
              have H' := Aside0.mk H
              clear H
              go_wp2
              go_meet
              case rel => exact ⟨_, (((bt a0 1) == 34)), (by first | rfl | (simp; done) | (simp [*]; done)), H', ⟨by first | omega | exact Nat.le_refl _⟩, ⟨by repeat (first | (with_reducible first | exact HB.out | apply below_alloc | apply pw_below_drewN | apply below_drew1) | exact HB.out)⟩⟩
            · rw [if_neg c9] at H
              have c9b0 : ((bt a0 1) == 34) = false := beq_eq_false_iff_ne.mpr c9
              have c9b1 : ((bt a0 1) != 34) = true := bne_iff_ne.mpr c9
              (first | rw [c9b0] | (simp only [i64_w, i32_w]; rw [c9b0]) | skip)
              have H' := Aside0.mk H
              clear H
              go_wp2
              go_meet
              case rel => exact ⟨_, (((bt a0 1) == 92)), (by first | rfl | (simp; done) | (simp [*]; done)), H', ⟨by first | omega | exact Nat.le_refl _⟩, ⟨by repeat (first | (with_reducible first | exact HB.out | apply below_alloc | apply pw_below_drewN | apply below_drew1) | exact HB.out)⟩⟩
          case rest =>
            clear HC8
            try clear c2
            try clear c2b0
            try clear c2b1
            try clear p2
            try clear p3
            try clear q3
            try clear hx3
            try clear qi3
            try clear c4
            try clear c4b0
            try clear c4b1
            try clear c5
            try clear c5b0
            try clear c5b1
            try clear c6
            try clear c6b0
            try clear c6b1
            try clear p7
            try clear q7
            try clear hx7
            try clear qi7
            try clear c9
            try clear c9b0
            try clear c9b1
            try clear p3
            try clear p7
            try clear q3
            try clear q7
            obtain ⟨kq, x25_7, rfl, HA, HJ7, HB⟩ := hcut
            cases kq with
            | zero => exact absurd HA.out (by simp [ferruleref5_one.j0])
            | succ kj7 =>
              have H := HA.out
              clear HA
              simp only [ferruleref5_one.j0] at H
              by_cases c10 : x25_7 = true
              · subst c10
                have H1 : (if 1 ≤ 2 then (if 2 ≤ (a0.size : Int) then (some (a0.extract 1 2, 2)) else (none)) else (none)) = some (r1, r2) := by rw [if_pos rfl] at H; exact H
                clear H
                have H := H1
                clear H1
                by_cases c11 : 1 ≤ 2
                · rw [if_pos c11] at H
                  have c11b0 := eq_true c11
                  have c11b1 : decide (1 ≤ 2) = true := decide_eq_true c11
                  clear c11
                  by_cases c12 : 2 ≤ (a0.size : Int)
                  · rw [if_pos c12] at H
                    have c12b0 := eq_true c12
                    have c12b1 : decide (2 ≤ (a0.size : Int)) = true := decide_eq_true c12
                    clear c12
                    simp only [Option.some.injEq, Prod.mk.injEq] at H
                    obtain ⟨rfl, rfl⟩ := H
                    go_wp2
                    go_ret2
                    exact ⟨by first | rfl | (simp [errW_none, errW_some] <;> rfl) | (simp [*, errW_none, errW_some] <;> rfl), by repeat (first | (with_reducible first | exact HB.out | apply below_alloc | apply pw_below_drewN | apply below_drew1) | exact HB.out)⟩
                  · rw [if_neg c12] at H
                    exact absurd H (by simp)
                · rw [if_neg c11] at H
                  exact absurd H (by simp)
              · replace c10 := Bool.eq_false_iff.mpr c10
                subst c10
                have H1 : (if (bt a0 1) = 110 then (some ((⟨#[10]⟩ : ByteArray), 2)) else (if (bt a0 1) = 116 then (some ((⟨#[9]⟩ : ByteArray), 2)) else (if (bt a0 1) = 48 then (some ((⟨#[0]⟩ : ByteArray), 2)) else (if (bt a0 1) = 120 then (if 2 ≤ (a0.size : Int) then ((ferruleref5_digits.f kj7 (a0.extract 2 a0.size) 2).bind fun t137 => (if t137 < 0 then (some ((⟨#[]⟩ : ByteArray), 0)) else (some (strOfNums (([(t137) % 256] : List Int)), 4)))) else (none)) else (if (bt a0 1) = 117 then (if 2 ≤ (a0.size : Int) then ((ferruleref5_digits.f kj7 (a0.extract 2 a0.size) 4).bind fun t141 => (if t141 < 0 then (some ((⟨#[]⟩ : ByteArray), 0)) else ((ferruleref5_raw.f t141).bind fun t142 => (some (t142, 6))))) else (none)) else (some ((⟨#[]⟩ : ByteArray), 0))))))) = some (r1, r2) := by rw [if_neg (show ¬ (false = true) by decide)] at H; exact H
                clear H
                have H := H1
                clear H1
                by_cases c13 : (bt a0 1) = 110
                · rw [if_pos c13] at H
                  have c13b0 : ((bt a0 1) == 110) = true := beq_iff_eq.mpr c13
                  have c13b1 : ((bt a0 1) != 110) = false := bne_eq_false_iff_eq.mpr c13
                  clear c13
                  simp only [Option.some.injEq, Prod.mk.injEq] at H
                  obtain ⟨rfl, rfl⟩ := H
                  go_wp2
                  go_ret2
                  exact ⟨by first | rfl | (simp [errW_none, errW_some] <;> rfl) | (simp [*, errW_none, errW_some] <;> rfl), by repeat (first | (with_reducible first | exact HB.out | apply below_alloc | apply pw_below_drewN | apply below_drew1) | exact HB.out)⟩
                · rw [if_neg c13] at H
                  have c13b0 : ((bt a0 1) == 110) = false := beq_eq_false_iff_ne.mpr c13
                  have c13b1 : ((bt a0 1) != 110) = true := bne_iff_ne.mpr c13
                  by_cases c14 : (bt a0 1) = 116
                  · rw [if_pos c14] at H
                    have c14b0 : ((bt a0 1) == 116) = true := beq_iff_eq.mpr c14
                    have c14b1 : ((bt a0 1) != 116) = false := bne_eq_false_iff_eq.mpr c14
                    clear c14
                    simp only [Option.some.injEq, Prod.mk.injEq] at H
                    obtain ⟨rfl, rfl⟩ := H
                    go_wp2
                    go_ret2
                    exact ⟨by first | rfl | (simp [errW_none, errW_some] <;> rfl) | (simp [*, errW_none, errW_some] <;> rfl), by repeat (first | (with_reducible first | exact HB.out | apply below_alloc | apply pw_below_drewN | apply below_drew1) | exact HB.out)⟩
                  · rw [if_neg c14] at H
                    have c14b0 : ((bt a0 1) == 116) = false := beq_eq_false_iff_ne.mpr c14
                    have c14b1 : ((bt a0 1) != 116) = true := bne_iff_ne.mpr c14
                    by_cases c15 : (bt a0 1) = 48
                    · rw [if_pos c15] at H
                      have c15b0 : ((bt a0 1) == 48) = true := beq_iff_eq.mpr c15
                      have c15b1 : ((bt a0 1) != 48) = false := bne_eq_false_iff_eq.mpr c15
                      clear c15
                      simp only [Option.some.injEq, Prod.mk.injEq] at H
                      obtain ⟨rfl, rfl⟩ := H
                      go_wp2
                      go_ret2
                      exact ⟨by first | rfl | (simp [errW_none, errW_some] <;> rfl) | (simp [*, errW_none, errW_some] <;> rfl), by repeat (first | (with_reducible first | exact HB.out | apply below_alloc | apply pw_below_drewN | apply below_drew1) | exact HB.out)⟩
                    · rw [if_neg c15] at H
                      have c15b0 : ((bt a0 1) == 48) = false := beq_eq_false_iff_ne.mpr c15
                      have c15b1 : ((bt a0 1) != 48) = true := bne_iff_ne.mpr c15
                      by_cases c16 : (bt a0 1) = 120
                      · rw [if_pos c16] at H
                        have c16b0 : ((bt a0 1) == 120) = true := beq_iff_eq.mpr c16
                        have c16b1 : ((bt a0 1) != 120) = false := bne_eq_false_iff_eq.mpr c16
                        clear c16
                        by_cases c17 : 2 ≤ (a0.size : Int)
                        · rw [if_pos c17] at H
                          have c17b0 := eq_true c17
                          have c17b1 : decide (2 ≤ (a0.size : Int)) = true := decide_eq_true c17
                          clear c17
                          replace H := Option.bind_eq_some_iff.mp H
                          obtain ⟨t137, A180, H⟩ := H
                          replace H : (if t137 < 0 then (some ((⟨#[]⟩ : ByteArray), 0)) else (some (strOfNums (([(t137) % 256] : List Int)), 4))) = some (r1, r2) := H
                          have A18 := Aside0.mk A180
                          clear A180
                          by_cases c19 : t137 < 0
                          · rw [if_pos c19] at H
                            have c19b0 : decide (t137 < 0) = true := decide_eq_true c19
                            clear c19
                            simp only [Option.some.injEq, Prod.mk.injEq] at H
                            obtain ⟨rfl, rfl⟩ := H
                            go_wp2_with (first | ((with_reducible refine gate_callee (f := 34) rfl ?_); refine goesL_ (some 40) rfl rfl Tryd.func34 (by kernel_rfl) rfl #[.string (a0.extract 2 a0.size), .int .i64 2] rfl (by (try simp only [List.map_toArray, List.map_cons, List.map_nil]); first | done | rfl | (simp only [List.length_drop, List.length_take]; rfl)) ?_; (with_reducible refine (ferruleref5_digits.calls kj7 (a0.extract 2 a0.size) 2 t137 _ A18.out).mono ?_); rintro e w' ⟨rfl, ⟨nd, rfl⟩⟩; refine ⟨_, rfl, ?_⟩))
                            go_ret2
                            exact ⟨by first | rfl | (simp [errW_none, errW_some] <;> rfl) | (simp [*, errW_none, errW_some] <;> rfl), by repeat (first | (with_reducible first | exact HB.out | apply below_alloc | apply pw_below_drewN | apply below_drew1) | exact HB.out)⟩
                          · rw [if_neg c19] at H
                            have c19b0 : decide (t137 < 0) = false := decide_eq_false c19
                            clear c19
                            obtain ⟨y138, hy138⟩ : ∃ y_ : List Int, y_ = (([(t137) % 256] : List Int)) := ⟨_, rfl⟩
                            replace H : (some (strOfNums y138, 4)) = some (r1, r2) := by first | (rw [hy138]; with_reducible exact H) | (have H2_ := (Option.bind_some _ _).symm.trans H; rw [hy138]; with_reducible exact H2_) | (have H2_ := (Option.bind_some _ _).symm.trans H; with_reducible exact H2_) | with_reducible exact H | (rw [hy138]; exact H) | exact H
                            have Ny138 := Aside0.mk hy138
                            clear hy138
                            simp only [Option.some.injEq, Prod.mk.injEq] at H
                            obtain ⟨rfl, rfl⟩ := H
                            go_wp2_with (first | ((with_reducible refine gate_callee (f := 34) rfl ?_); refine goesL_ (some 40) rfl rfl Tryd.func34 (by kernel_rfl) rfl #[.string (a0.extract 2 a0.size), .int .i64 2] rfl (by (try simp only [List.map_toArray, List.map_cons, List.map_nil]); first | done | rfl | (simp only [List.length_drop, List.length_take]; rfl)) ?_; (with_reducible refine (ferruleref5_digits.calls kj7 (a0.extract 2 a0.size) 2 t137 _ A18.out).mono ?_); rintro e w' ⟨rfl, ⟨nd, rfl⟩⟩; refine ⟨_, rfl, ?_⟩) | ((with_reducible refine gate_dst (N := 45) rfl ?_); refine Kd.R_lit (Kd.int .u8) _ 5 ?hg (N := 45) ?hd (xs := ([(t137) % 256] : List Int)) (inner := [.int .u8 ((t137) % 256)]) (ok := fun _ => True) (okp := fun _ => True) ?hr ?hp (fun _ hk => hk) trivial (Below.refl _ _) (Nat.le_refl _) (by simp) ?_; (case hd => rfl); (case hg => rfl); (case hr => first | (go_simp; done) | (go_simp; rfl)); (case hp => exact (Reps.one (show Kd.M (Kd.int .u8) _ _ _ ((t137) % 256) [.int .u8 ((t137) % 256)] from rfl) (Reps.none _ _))); intro v139 w20 ho21 hb hg_ hnew_; clear hg_ hnew_; (first | rw [← Ny138.out] at ho21 | (simp only [Int.reduceToNat] at ho21; rw [← Ny138.out] at ho21)); have n0_ := Aside0.mk (Kd.R_lower ho21 (below_size (by repeat (first | (with_reducible first | exact HB.out | apply below_alloc | apply pw_below_drewN | apply below_drew1) | exact HB.out)))); have n1_ := Aside0.mk (below_step (by repeat (first | (with_reducible first | exact HB.out | apply below_alloc | apply pw_below_drewN | apply below_drew1) | exact HB.out)) hb); clear HB; have HO140 := n0_; have HB := n1_; clear n0_ n1_; clear hb ho21; have hcv22 := own_string (P := Tryd.prog) Tryd.underlying38 Tryd.underlying5 Tryd.underlying9 (Kd.own_of_R HO140.out)))
                            go_ret2
                            exact ⟨by first | rfl | (simp [errW_none, errW_some] <;> rfl) | (simp [*, errW_none, errW_some] <;> rfl), by repeat (first | (with_reducible first | exact HB.out | apply below_alloc | apply pw_below_drewN | apply below_drew1) | exact HB.out)⟩
                        · rw [if_neg c17] at H
                          exact absurd H (by simp)
                      · rw [if_neg c16] at H
                        have c16b0 : ((bt a0 1) == 120) = false := beq_eq_false_iff_ne.mpr c16
                        have c16b1 : ((bt a0 1) != 120) = true := bne_iff_ne.mpr c16
                        by_cases c23 : (bt a0 1) = 117
                        · rw [if_pos c23] at H
                          have c23b0 : ((bt a0 1) == 117) = true := beq_iff_eq.mpr c23
                          have c23b1 : ((bt a0 1) != 117) = false := bne_eq_false_iff_eq.mpr c23
                          clear c23
                          by_cases c24 : 2 ≤ (a0.size : Int)
                          · rw [if_pos c24] at H
                            have c24b0 := eq_true c24
                            have c24b1 : decide (2 ≤ (a0.size : Int)) = true := decide_eq_true c24
                            clear c24
                            replace H := Option.bind_eq_some_iff.mp H
                            obtain ⟨t141, A250, H⟩ := H
                            replace H : (if t141 < 0 then (some ((⟨#[]⟩ : ByteArray), 0)) else ((ferruleref5_raw.f t141).bind fun t142 => (some (t142, 6)))) = some (r1, r2) := H
                            have A25 := Aside0.mk A250
                            clear A250
                            by_cases c26 : t141 < 0
                            · rw [if_pos c26] at H
                              have c26b0 : decide (t141 < 0) = true := decide_eq_true c26
                              clear c26
                              simp only [Option.some.injEq, Prod.mk.injEq] at H
                              obtain ⟨rfl, rfl⟩ := H
                              go_wp2_with (first | ((with_reducible refine gate_callee (f := 34) rfl ?_); refine goesL_ (some 51) rfl rfl Tryd.func34 (by kernel_rfl) rfl #[.string (a0.extract 2 a0.size), .int .i64 4] rfl (by (try simp only [List.map_toArray, List.map_cons, List.map_nil]); first | done | rfl | (simp only [List.length_drop, List.length_take]; rfl)) ?_; (with_reducible refine (ferruleref5_digits.calls kj7 (a0.extract 2 a0.size) 4 t141 _ A25.out).mono ?_); rintro e w' ⟨rfl, ⟨nd, rfl⟩⟩; refine ⟨_, rfl, ?_⟩))
                              go_ret2
                              exact ⟨by first | rfl | (simp [errW_none, errW_some] <;> rfl) | (simp [*, errW_none, errW_some] <;> rfl), by repeat (first | (with_reducible first | exact HB.out | apply below_alloc | apply pw_below_drewN | apply below_drew1) | exact HB.out)⟩
                            · rw [if_neg c26] at H
                              have c26b0 : decide (t141 < 0) = false := decide_eq_false c26
                              clear c26
                              replace H := Option.bind_eq_some_iff.mp H
                              obtain ⟨t142, A270, H⟩ := H
                              replace H : (some (t142, 6)) = some (r1, r2) := H
                              have A27 := Aside0.mk A270
                              clear A270
                              simp only [Option.some.injEq, Prod.mk.injEq] at H
                              obtain ⟨rfl, rfl⟩ := H
                              go_wp2_with (first | ((with_reducible refine gate_callee (f := 34) rfl ?_); refine goesL_ (some 51) rfl rfl Tryd.func34 (by kernel_rfl) rfl #[.string (a0.extract 2 a0.size), .int .i64 4] rfl (by (try simp only [List.map_toArray, List.map_cons, List.map_nil]); first | done | rfl | (simp only [List.length_drop, List.length_take]; rfl)) ?_; (with_reducible refine (ferruleref5_digits.calls kj7 (a0.extract 2 a0.size) 4 t141 _ A25.out).mono ?_); rintro e w' ⟨rfl, ⟨nd, rfl⟩⟩; refine ⟨_, rfl, ?_⟩) | ((with_reducible refine gate_callee (f := 35) rfl ?_); refine goesL_ (some 55) rfl rfl Tryd.func35 (by kernel_rfl) rfl #[.int .i64 t141] rfl (by (try simp only [List.map_toArray, List.map_cons, List.map_nil]); first | done | rfl | (simp only [List.length_drop, List.length_take]; rfl)) ?_; (with_reducible refine (ferruleref5_raw.calls t141 t142 _ A27.out).mono ?_); rintro e w28 ⟨rfl, hb⟩; refine ⟨_, rfl, ?_⟩; have n0_ := Aside0.mk (below_step (by repeat (first | (with_reducible first | exact HB.out | apply below_alloc | apply pw_below_drewN | apply below_drew1) | exact HB.out)) hb); clear HB; have HB := n0_; clear n0_; (try clear hb); (try clear hb2); (try clear hk); (try clear hi)))
                              go_ret2
                              exact ⟨by first | rfl | (simp [errW_none, errW_some] <;> rfl) | (simp [*, errW_none, errW_some] <;> rfl), by repeat (first | (with_reducible first | exact HB.out | apply below_alloc | apply pw_below_drewN | apply below_drew1) | exact HB.out)⟩
                          · rw [if_neg c24] at H
                            exact absurd H (by simp)
                        · rw [if_neg c23] at H
                          have c23b0 : ((bt a0 1) == 117) = false := beq_eq_false_iff_ne.mpr c23
                          have c23b1 : ((bt a0 1) != 117) = true := bne_iff_ne.mpr c23
                          simp only [Option.some.injEq, Prod.mk.injEq] at H
                          obtain ⟨rfl, rfl⟩ := H
                          go_wp2
                          go_ret2
                          exact ⟨by first | rfl | (simp [errW_none, errW_some] <;> rfl) | (simp [*, errW_none, errW_some] <;> rfl), by repeat (first | (with_reducible first | exact HB.out | apply below_alloc | apply pw_below_drewN | apply below_drew1) | exact HB.out)⟩
        · rw [if_neg c6] at H
          exact absurd H (by simp)
    · rw [if_neg c4] at H
      have c4b0 : ((bt a0 0) == 92) = false := beq_eq_false_iff_ne.mpr c4
      have c4b1 : ((bt a0 0) != 92) = true := bne_iff_ne.mpr c4
      replace H := Option.bind_eq_some_iff.mp H
      obtain ⟨⟨t135, t136⟩, A290, H⟩ := H
      replace H : (if 0 ≤ t136 then (if t136 ≤ (a0.size : Int) then (some (a0.extract 0 (t136 : Int).toNat, t136)) else (none)) else (none)) = some (r1, r2) := H
      have A29 := Aside0.mk A290
      clear A290
      by_cases c30 : 0 ≤ t136
      · rw [if_pos c30] at H
        have c30b0 := eq_true c30
        have c30b1 : decide (0 ≤ t136) = true := decide_eq_true c30
        clear c30
        by_cases c31 : t136 ≤ (a0.size : Int)
        · rw [if_pos c31] at H
          have c31b0 := eq_true c31
          have c31b1 : decide (t136 ≤ (a0.size : Int)) = true := decide_eq_true c31
          clear c31
          simp only [Option.some.injEq, Prod.mk.injEq] at H
          obtain ⟨rfl, rfl⟩ := H
          have p3 : 0 ≤ (0 : Int) := (by omega)
          have q3 : 0 < a0.size := (by have : (0 : Int) < (a0.size : Int) := of_decide_eq_true (by first | (with_reducible assumption) | assumption); omega)
          have hx3 : ∀ h : 0 < a0.size, ((a0[0]'h).toNat : Int) = bt a0 0 := bt_at a0 0
          clear p3
          have qi3 : (0 < (a0.size : Int)) = True := eq_true (of_decide_eq_true (by first | (with_reducible assumption) | assumption))
          replace q3 := eq_true q3
          go_enter Tryd.func28, Tryd.ntmps28
          go_wp2_with (first | ((with_reducible refine gate_callee (f := 27) rfl ?_); refine goesL_ (some 13) rfl rfl Tryd.func27 (by kernel_rfl) rfl #[.string a0] rfl (by (try simp only [List.map_toArray, List.map_cons, List.map_nil]); first | done | rfl | (simp only [List.length_drop, List.length_take]; rfl)) ?_; (with_reducible refine (ferruleref5_Rune.calls k a0 t135 t136 _ A29.out).mono ?_); rintro e w' ⟨rfl, ⟨nd, rfl⟩⟩; refine ⟨_, rfl, ?_⟩))
          go_ret2
          exact ⟨by first | rfl | (simp [errW_none, errW_some] <;> rfl) | (simp [*, errW_none, errW_some] <;> rfl), by repeat (first | (with_reducible first | exact HB.out | apply below_alloc | apply pw_below_drewN | apply below_drew1) | exact HB.out)⟩
        · rw [if_neg c31] at H
          exact absurd H (by simp)
      · rw [if_neg c30] at H
        exact absurd H (by simp)
  · rw [if_neg c2] at H
    exact absurd H (by simp)

end Go.Proofs.YtanimkkljbadpaaDoor.PQuoteReads
