/- Walk: awake, QuoteKnown. -/
import Derived.Test.YtanimkkljbadpaaDoorW8
set_option linter.unusedVariables false
set_option linter.unusedSimpArgs false
namespace Go.Proofs.YtanimkkljbadpaaDoor
open Go.Shelf Go.RowKit Q

theorem tabs_any {w W : World} (h : Tabs w) (hb : Below w.heap.size w W) : Tabs W := tabs_below h hb
theorem step_any {w W W' : World} (h : Below w.heap.size w W) (hb : Below W.heap.size W W') : Below w.heap.size w W' := h.trans (hb.mono h.size)
theorem quote_at (w : World) (hT : Tabs w) (t r : Bs) (ht : t.length ≤ 1000) (hr : quote t = r) : ∀ W, Below w.heap.size w W → Calls Tryd.prog 11 #[.string ⟨t.toArray⟩] W fun e w' => e = .returned (.string ⟨r.toArray⟩) ∧ Below w.heap.size w w' := by
  intro W hW
  refine (quote_ok (BA t) W (tabs_any hT hW) (by rw [BA_size]; omega)).mono ?_
  rintro e w' ⟨rfl, hb⟩
  rw [LS_BA, hr]
  exact ⟨rfl, step_any hW hb⟩
theorem read_at (w : World) (hT : Tabs w) (t : Bs) (r : Value) (ht : t.length ≤ 1000) (hr : readV (readP t) = r) : ∀ W, Below w.heap.size w W → Calls Tryd.prog 10 #[.string ⟨t.toArray⟩] W fun e w' => e = .returned r ∧ Below w.heap.size w w' := by
  intro W hW
  refine (read_ok (BA t) W (tabs_any hT hW) (by rw [BA_size]; omega)).mono ?_
  rintro e w' ⟨rfl, hb⟩
  rw [LS_BA, hr]
  exact ⟨rfl, step_any hW hb⟩
theorem runes_at (w : World) (hT : Tabs w) (t : Bs) (a b : Nat) (ht : t.length ≤ 1000) (ha : goods (toks t) = a) (hb : bads (toks t) = b) : ∀ W, Below w.heap.size w W → Calls Tryd.prog 16 #[.string ⟨t.toArray⟩] W fun e w' => e = .returned (.tuple #[.int .i64 a, .int .i64 b]) ∧ Below w.heap.size w w' := by
  intro W hW
  refine (runes_ok (BA t) W (tabs_any hT hW) (by rw [BA_size]; omega)).mono ?_
  rintro e w' ⟨rfl, hbw⟩
  rw [LS_BA, ha, hb]
  exact ⟨rfl, step_any hW hbw⟩
theorem cut_at (w : World) (hT : Tabs w) (t r : Bs) (n : Int) (ht : t.length ≤ 1000) (hr : cut t n = r) : ∀ W, Below w.heap.size w W → Calls Tryd.prog 12 #[.string ⟨t.toArray⟩, .int .i64 n] W fun e w' => e = .returned (.string ⟨r.toArray⟩) ∧ Below w.heap.size w w' := by
  intro W hW
  refine (cut_ok (BA t) n W (tabs_any hT hW) (by rw [BA_size]; omega)).mono ?_
  rintro e w' ⟨rfl, hbw⟩
  have : (BA t).extract 0 (cutLen (LS (BA t)) n) = BA r := by
    rw [← hr]; unfold cut; rw [← BA_LS ((BA t).extract _ _), LS_take, LS_BA]
  rw [this]
  exact ⟨rfl, step_any hW hbw⟩

set_option maxHeartbeats 1000000 in
set_option maxRecDepth 100000 in
theorem awake_ok (w : World) (hT : Tabs w) : Calls Tryd.prog 9 #[] w fun e w' => e = .returned (.bool true) ∧ Below w.heap.size w w' := by
  have HB := Aside.mk (Below.refl w.heap.size w)
  have H1 := Aside.mk (read_at w hT [34, 97, 34, 32, 98] (.tuple #[.string ⟨#[97]⟩, .int .i64 3, .int .i64 0]) (by decide) (by rfl))
  have H2 := Aside.mk (runes_at w hT [97, 195, 169, 255, 195] 2 2 (by decide) (by rfl) (by rfl))
  have H3 := Aside.mk (quote_at w hT [97, 34, 98] [34, 97, 92, 34, 98, 34] (by decide) (by rfl))
  have H4 := Aside.mk (quote_at w hT [255, 10] [34, 92, 120, 102, 102, 92, 110, 34] (by decide) (by rfl))
  have H5 := Aside.mk (cut_at w hT [97, 195, 169] [97] 2 (by decide) (by rfl))
  clear hT
  go_enter Tryd.func9, Tryd.ntmps9
  go_wp2_with (first | (go_at_call 10; refine (H1.out _ HB.out).mono ?_; rintro e w1 ⟨rfl, hb⟩; clear HB; have HB := Aside.mk hb; clear hb) | (go_at_call 16; refine (H2.out _ HB.out).mono ?_; rintro e w1 ⟨rfl, hb⟩; clear HB; have HB := Aside.mk hb; clear hb) | (go_at_call 11; (first | (with_reducible refine (H3.out _ HB.out).mono ?_) | (with_reducible refine (H4.out _ HB.out).mono ?_)); rintro e w1 ⟨rfl, hb⟩; clear HB; have HB := Aside.mk hb; clear hb) | (go_at_call 12; refine (H5.out _ HB.out).mono ?_; rintro e w1 ⟨rfl, hb⟩; clear HB; have HB := Aside.mk hb; clear hb))
  go_ret
  exact ⟨rfl, HB.out⟩
theorem awake_at (w : World) (hT : Tabs w) : ∀ W, Below w.heap.size w W → Calls Tryd.prog 9 #[] W fun e w' => e = .returned (.bool true) ∧ Below w.heap.size w w' := by
  intro W hW
  refine (awake_ok W (tabs_any hT hW)).mono ?_
  rintro e w' ⟨rfl, hb⟩
  exact ⟨rfl, step_any hW hb⟩

set_option maxHeartbeats 1000000 in
set_option maxRecDepth 100000 in
theorem known_ok (w : World) (hT : Tabs w) : Calls Tryd.prog 3 #[] w fun e w' => e = .returned (.bool true) ∧ Below w.heap.size w w' := by
  have HB := Aside.mk (Below.refl w.heap.size w)
  have H0 := Aside.mk (awake_at w hT)
  have H1 := Aside.mk (read_at w hT [34, 97, 92, 120, 52, 49, 34] (.tuple #[.string ⟨#[]⟩, .int .i64 0, .int .i64 3]) (by decide) (by rfl))
  have H2 := Aside.mk (read_at w hT [34, 97] (.tuple #[.string ⟨#[]⟩, .int .i64 0, .int .i64 3]) (by decide) (by rfl))
  have H3 := Aside.mk (read_at w hT [97] (.tuple #[.string ⟨#[]⟩, .int .i64 0, .int .i64 3]) (by decide) (by rfl))
  have H4 := Aside.mk (quote_at w hT [195, 169] [34, 195, 169, 34] (by decide) (by rfl))
  have H5 := Aside.mk (quote_at w hT [194, 133] [34, 92, 117, 48, 48, 56, 53, 34] (by decide) (by rfl))
  have H6 := Aside.mk (quote_at w hT [] [34, 34] (by decide) (by rfl))
  have H7 := Aside.mk (cut_at w hT [97, 195, 169] [97, 195, 169] 3 (by decide) (by rfl))
  have H8 := Aside.mk (cut_at w hT [97, 195] [97, 195] 2 (by decide) (by rfl))
  have H9 := Aside.mk (cut_at w hT [97, 98] [] (-1) (by decide) (by rfl))
  clear hT
  go_enter Tryd.func3, Tryd.ntmps3
  go_wp2_with (first | (go_at_call 9; refine (H0.out _ HB.out).mono ?_; rintro e w1 ⟨rfl, hb⟩; clear HB; have HB := Aside.mk hb; clear hb) | (go_at_call 10; (first | (with_reducible refine (H1.out _ HB.out).mono ?_) | (with_reducible refine (H2.out _ HB.out).mono ?_) | (with_reducible refine (H3.out _ HB.out).mono ?_)); rintro e w1 ⟨rfl, hb⟩; clear HB; have HB := Aside.mk hb; clear hb) | (go_at_call 11; (first | (with_reducible refine (H4.out _ HB.out).mono ?_) | (with_reducible refine (H5.out _ HB.out).mono ?_) | (with_reducible refine (H6.out _ HB.out).mono ?_)); rintro e w1 ⟨rfl, hb⟩; clear HB; have HB := Aside.mk hb; clear hb) | (go_at_call 12; (first | (with_reducible refine (H7.out _ HB.out).mono ?_) | (with_reducible refine (H8.out _ HB.out).mono ?_) | (with_reducible refine (H9.out _ HB.out).mono ?_)); rintro e w1 ⟨rfl, hb⟩; clear HB; have HB := Aside.mk hb; clear hb))
  go_ret
  exact ⟨rfl, HB.out⟩
end Go.Proofs.YtanimkkljbadpaaDoor
