-- PRINTED BY print.sh 35421559b90ae4d0a3588c463048766b98c2df88dd9212a6774a882060cdf62d: not written by this session
import Derived.Test.YtanimkkljbadpaaDoorPQuoteRunesx0
import Derived.Test.YtanimkkljbadpaaDoorPQuoteRunesx2
namespace Go.Proofs.YtanimkkljbadpaaDoor.PQuoteRunes
open Go.RowKit Go.Proofs.YtanimkkljbadpaaDoorW.PrintWords Go.Proofs.YtanimkkljbadpaaDoorW.PrintLast Go.Proofs.YtanimkkljbadpaaDoorW.PrintMore
attribute [local go_sem] max2_int min2_int max_two min_two max_three min_three max_four min_four   -- for this text's walks alone
set_option linter.unusedVariables false
set_option linter.unusedSimpArgs false

/-! ### ferruleref5_Cut: function 17 -/
def ferruleref5_Cut.l0 : Nat → ByteArray → Int → Int → Option (ByteArray)
  | 0, _, _, _ => none
  | k + 1, x0, x1, x5 => if x5 < (x0.size : Int) then (if 0 ≤ x5 then (if x5 ≤ (x0.size : Int) then ((ferruleref5_Rune.f k (x0.extract (x5 : Int).toNat x0.size)).bind fun bt105 => (if bt105.2 = 0 then (if 1 > (wrap64 (x1 - x5)) then (some (x0.extract 0 (x5 : Int).toNat)) else (ferruleref5_Cut.l0 k x0 x1 (wrap64 (x5 + 1)))) else (if bt105.2 > (wrap64 (x1 - x5)) then (some (x0.extract 0 (x5 : Int).toNat)) else (ferruleref5_Cut.l0 k x0 x1 (wrap64 (x5 + bt105.2)))))) else (none)) else (none)) else (if 0 ≤ x5 then (if x5 ≤ (x0.size : Int) then (some (x0.extract 0 (x5 : Int).toNat)) else (none)) else (none))
def ferruleref5_Cut.f (k : Nat) (a0 : ByteArray) (a1 : Int) : Option (ByteArray) := ferruleref5_Cut.l0 k a0 a1 0
theorem ferruleref5_Cut.mono_l : ∀ k, (∀ y0 y1 y2, LeO (ferruleref5_Cut.l0 k y0 y1 y2) (ferruleref5_Cut.l0 (k + 1) y0 y1 y2))
  | 0 => fun _ _ _ r h => by simp [ferruleref5_Cut.l0] at h
  | k + 1 => by
    have ih0 := ferruleref5_Cut.mono_l k
    · intro y0 y1 y2
      unfold ferruleref5_Cut.l0
      repeat' first
      | (with_reducible exact ih0 _ _ _)
      | (with_reducible exact ferruleref5_Rune.mono _ _)
      | (with_reducible exact LeO.refl _)
      | (with_reducible exact LeO.none _)
      | (with_reducible refine LeO.ite ?_ ?_)
      | (with_reducible refine LeO.bind ?_ (fun _ => ?_))
      | exact ih0 _ _ _
      | exact ferruleref5_Rune.mono _ _
      | exact LeO.none _
      | refine LeO.ite ?_ ?_
      | refine LeO.bind ?_ (fun _ => ?_)
theorem ferruleref5_Cut.mono : ∀ a0 a1 k, LeO (ferruleref5_Cut.f k a0 a1) (ferruleref5_Cut.f (k + 1) a0 a1) := by
  intro a0 a1 k
  have ih0 := ferruleref5_Cut.mono_l k
  unfold ferruleref5_Cut.f
  repeat' first
      | (with_reducible exact ih0 _ _ _)
      | (with_reducible exact ferruleref5_Rune.mono _ _)
      | (with_reducible exact LeO.refl _)
      | (with_reducible exact LeO.none _)
      | (with_reducible refine LeO.ite ?_ ?_)
      | (with_reducible refine LeO.bind ?_ (fun _ => ?_))
      | exact ih0 _ _ _
      | exact ferruleref5_Rune.mono _ _
      | exact LeO.none _
      | refine LeO.ite ?_ ?_
      | refine LeO.bind ?_ (fun _ => ?_)
set_option maxHeartbeats 8000000 in
set_option maxRecDepth 100000 in
theorem ferruleref5_Cut.calls (k : Nat) (a0 : ByteArray) (a1 : Int) (r : ByteArray) (w : World) (h : ferruleref5_Cut.f k a0 a1 = some r) :
    Calls Tryd.prog 17 #[.string a0, .int .i64 a1] w fun e w' => e = .returned (.string r) ∧ Drawn0 w w' := by
  have H : (ferruleref5_Cut.l0 k a0 a1 0) = some r := h
  clear h
  have H' := Aside0.mk H
  clear H
  go_enter Tryd.func17, Tryd.ntmps17
  go_wp2
  go_loopg [5] k (fun kq v5 w' => ∃ (x5_1 : Int), v5 = .int .i64 x5_1 ∧ Aside0 (ferruleref5_Cut.l0 kq a0 a1 x5_1 = some r) ∧ Aside0 (kq ≤ k) ∧ Drawn0 w w')
  case atStart => exact ⟨(0), (by first | rfl | (simp; done) | (simp [*]; done)), H', ⟨Nat.le_refl _⟩, by repeat (first | exact Drawn0.refl _ | apply Drawn0.step)⟩
  case round =>
    clear H'
    try clear c1
    try clear p2
    obtain ⟨x5_1, rfl, HA, HK1, ⟨m1, rfl⟩⟩ := hrel
    cases gk with
    | zero => exact absurd HA.out (by simp [ferruleref5_Cut.l0])
    | succ k1 =>
      have H := HA.out
      clear HA
      simp only [ferruleref5_Cut.l0] at H
      by_cases c3 : x5_1 < (a0.size : Int)
      · rw [if_pos c3] at H
        have c3b0 : decide (x5_1 < (a0.size : Int)) = true := decide_eq_true c3
        clear c3
        by_cases c4 : 0 ≤ x5_1
        · rw [if_pos c4] at H
          have c4b0 := eq_true c4
          have c4b1 : decide (0 ≤ x5_1) = true := decide_eq_true c4
          clear c4
          by_cases c5 : x5_1 ≤ (a0.size : Int)
          · rw [if_pos c5] at H
            have c5b0 := eq_true c5
            have c5b1 : decide (x5_1 ≤ (a0.size : Int)) = true := decide_eq_true c5
            clear c5
            replace H := Option.bind_eq_some_iff.mp H
            obtain ⟨⟨t105, t106⟩, A60, H⟩ := H
            replace H : (if t106 = 0 then (if 1 > (wrap64 (a1 - x5_1)) then (some (a0.extract 0 (x5_1 : Int).toNat)) else (ferruleref5_Cut.l0 k1 a0 a1 (wrap64 (x5_1 + 1)))) else (if t106 > (wrap64 (a1 - x5_1)) then (some (a0.extract 0 (x5_1 : Int).toNat)) else (ferruleref5_Cut.l0 k1 a0 a1 (wrap64 (x5_1 + t106))))) = some r := H
            have A6 := Aside0.mk A60
            clear A60
            by_cases c7 : t106 = 0
            · rw [if_pos c7] at H
              have c7b0 : (t106 == 0) = true := beq_iff_eq.mpr c7
              have c7b1 : (t106 != 0) = false := bne_eq_false_iff_eq.mpr c7
              clear c7
              by_cases c8 : 1 > (wrap64 (a1 - x5_1))
              · rw [if_pos c8] at H
                have c8b0 : decide ((wrap64 (a1 - x5_1)) < 1) = true := decide_eq_true c8
                clear c8
                have c9b0 := eq_true (of_decide_eq_true (by first | (with_reducible assumption) | assumption) : 0 ≤ x5_1)
                have c10b0 := eq_true (of_decide_eq_true (by first | (with_reducible assumption) | assumption) : x5_1 ≤ (a0.size : Int))
                obtain rfl := Option.some.inj H
                go_wp2_with (first | ((with_reducible refine gate_callee (f := 27) rfl ?_); refine goesL_ (some 16) rfl rfl Tryd.func27 (by kernel_rfl) rfl #[.string (a0.extract (x5_1 : Int).toNat a0.size)] rfl (by (try simp only [List.map_toArray, List.map_cons, List.map_nil]); first | done | rfl | (simp only [List.length_drop, List.length_take]; rfl)) ?_; (with_reducible refine (ferruleref5_Rune.calls k1 (a0.extract (x5_1 : Int).toNat a0.size) t105 t106 _ A6.out).mono ?_); rintro e w' ⟨rfl, ⟨nd, rfl⟩⟩; refine ⟨_, rfl, ?_⟩))
                go_ret
                exact ⟨by first | rfl | (simp; done) | (simp [*]; done), by repeat (first | exact Drawn0.refl _ | apply Drawn0.step)⟩
              · rw [if_neg c8] at H
                have c8b0 : decide ((wrap64 (a1 - x5_1)) < 1) = false := decide_eq_false c8
                clear c8
                have H' := Aside0.mk H
                clear H
                go_wp2_with (first | ((with_reducible refine gate_callee (f := 27) rfl ?_); refine goesL_ (some 16) rfl rfl Tryd.func27 (by kernel_rfl) rfl #[.string (a0.extract (x5_1 : Int).toNat a0.size)] rfl (by (try simp only [List.map_toArray, List.map_cons, List.map_nil]); first | done | rfl | (simp only [List.length_drop, List.length_take]; rfl)) ?_; (with_reducible refine (ferruleref5_Rune.calls k1 (a0.extract (x5_1 : Int).toNat a0.size) t105 t106 _ A6.out).mono ?_); rintro e w' ⟨rfl, ⟨nd, rfl⟩⟩; refine ⟨_, rfl, ?_⟩))
                go_roundg k1
                case measure => have := HK1.out; omega
                case rel => exact ⟨(wrap64 (x5_1 + 1)), (by first | rfl | (simp; done) | (simp [*]; done)), H', ⟨by have := HK1.out; omega⟩, by repeat (first | exact Drawn0.refl _ | apply Drawn0.step)⟩
            · rw [if_neg c7] at H
              have c7b0 : (t106 == 0) = false := beq_eq_false_iff_ne.mpr c7
              have c7b1 : (t106 != 0) = true := bne_iff_ne.mpr c7
              by_cases c11 : t106 > (wrap64 (a1 - x5_1))
              · rw [if_pos c11] at H
                have c11b0 : decide ((wrap64 (a1 - x5_1)) < t106) = true := decide_eq_true c11
                clear c11
                have c12b0 := eq_true (of_decide_eq_true (by first | (with_reducible assumption) | assumption) : 0 ≤ x5_1)
                have c13b0 := eq_true (of_decide_eq_true (by first | (with_reducible assumption) | assumption) : x5_1 ≤ (a0.size : Int))
                obtain rfl := Option.some.inj H
                go_wp2_with (first | ((with_reducible refine gate_callee (f := 27) rfl ?_); refine goesL_ (some 16) rfl rfl Tryd.func27 (by kernel_rfl) rfl #[.string (a0.extract (x5_1 : Int).toNat a0.size)] rfl (by (try simp only [List.map_toArray, List.map_cons, List.map_nil]); first | done | rfl | (simp only [List.length_drop, List.length_take]; rfl)) ?_; (with_reducible refine (ferruleref5_Rune.calls k1 (a0.extract (x5_1 : Int).toNat a0.size) t105 t106 _ A6.out).mono ?_); rintro e w' ⟨rfl, ⟨nd, rfl⟩⟩; refine ⟨_, rfl, ?_⟩))
                go_ret
                exact ⟨by first | rfl | (simp; done) | (simp [*]; done), by repeat (first | exact Drawn0.refl _ | apply Drawn0.step)⟩
              · rw [if_neg c11] at H
                have c11b0 : decide ((wrap64 (a1 - x5_1)) < t106) = false := decide_eq_false c11
                clear c11
                have H' := Aside0.mk H
                clear H
                go_wp2_with (first | ((with_reducible refine gate_callee (f := 27) rfl ?_); refine goesL_ (some 16) rfl rfl Tryd.func27 (by kernel_rfl) rfl #[.string (a0.extract (x5_1 : Int).toNat a0.size)] rfl (by (try simp only [List.map_toArray, List.map_cons, List.map_nil]); first | done | rfl | (simp only [List.length_drop, List.length_take]; rfl)) ?_; (with_reducible refine (ferruleref5_Rune.calls k1 (a0.extract (x5_1 : Int).toNat a0.size) t105 t106 _ A6.out).mono ?_); rintro e w' ⟨rfl, ⟨nd, rfl⟩⟩; refine ⟨_, rfl, ?_⟩))
                go_roundg k1
                case measure => have := HK1.out; omega
                case rel => exact ⟨(wrap64 (x5_1 + t106)), (by first | rfl | (simp; done) | (simp [*]; done)), H', ⟨by have := HK1.out; omega⟩, by repeat (first | exact Drawn0.refl _ | apply Drawn0.step)⟩
          · rw [if_neg c5] at H
            exact absurd H (by simp)
        · rw [if_neg c4] at H
          exact absurd H (by simp)
      · rw [if_neg c3] at H
        have c3b0 : decide (x5_1 < (a0.size : Int)) = false := decide_eq_false c3
        clear c3
        by_cases c14 : 0 ≤ x5_1
        · rw [if_pos c14] at H
          have c14b0 := eq_true c14
          have c14b1 : decide (0 ≤ x5_1) = true := decide_eq_true c14
          clear c14
          by_cases c15 : x5_1 ≤ (a0.size : Int)
          · rw [if_pos c15] at H
            have c15b0 := eq_true c15
            have c15b1 : decide (x5_1 ≤ (a0.size : Int)) = true := decide_eq_true c15
            clear c15
            obtain rfl := Option.some.inj H
            go_wp2
            go_ret
            exact ⟨by first | rfl | (simp; done) | (simp [*]; done), by repeat (first | exact Drawn0.refl _ | apply Drawn0.step)⟩
          · rw [if_neg c15] at H
            exact absurd H (by simp)
        · rw [if_neg c14] at H
          exact absurd H (by simp)

-- NOT PRINTED: function 6 (ferrulelaw5_QuoteRunes)

end Go.Proofs.YtanimkkljbadpaaDoor.PQuoteRunes
