/-
  Walk: Good of chapter 16's reference.
-/
import Derived.Test.YtjmhkcfdmcjilaaGreatFiL
set_option linter.unusedVariables false
set_option linter.unusedSimpArgs false
namespace Go.Proofs.YtjmhkcfdmcjilaaGreat
namespace Fi
open Go.RowKit Ai

/-- A Config in a block of its own. -/
def CfgAt (w : World) (g : Nat) (c : Cfg) : Prop := w.heap[g]? = some (.cells #[.int .i64 c.b, .int .i64 c.p, .int .i64 c.c, .int .i64 c.s, .int .i64 c.m, .int .i64 c.x, .bool c.f] 23 (0, 0))

theorem CfgAt.lt {w : World} {g : Nat} {c : Cfg} (h : CfgAt w g c) : g < w.heap.size := (Array.getElem?_eq_some_iff.1 h).1
theorem CfgAt.below {w w' : World} {g : Nat} {c : Cfg} (h : CfgAt w g c) (hb : Below w.heap.size w w') : CfgAt w' g c := by
  unfold CfgAt
  rw [hb.block g h.lt]
  exact h
theorem CfgAt.facts {w : World} {g : Nat} {c : Cfg} (h : CfgAt w g c) : w.cell? ⟨g, 0, none⟩ = some (.int .i64 c.b) ∧ w.cell? ⟨g, 1, none⟩ = some (.int .i64 c.p) ∧ w.cell? ⟨g, 2, none⟩ = some (.int .i64 c.c) ∧ w.cell? ⟨g, 3, none⟩ = some (.int .i64 c.s) ∧ w.cell? ⟨g, 4, none⟩ = some (.int .i64 c.m) ∧ w.cell? ⟨g, 5, none⟩ = some (.int .i64 c.x) ∧ w.cell? ⟨g, 6, none⟩ = some (.bool c.f) := by
  unfold CfgAt at h
  exact ⟨by rw [cell_of_row _ _ _ _ _ _ h]; rfl, by rw [cell_of_row _ _ _ _ _ _ h]; rfl, by rw [cell_of_row _ _ _ _ _ _ h]; rfl, by rw [cell_of_row _ _ _ _ _ _ h]; rfl, by rw [cell_of_row _ _ _ _ _ _ h]; rfl, by rw [cell_of_row _ _ _ _ _ _ h]; rfl, by rw [cell_of_row _ _ _ _ _ _ h]; rfl⟩

def GoodPost (c : Cfg) (w : World) (e : Ending) (w' : World) : Prop := ∃ r : Bool, e = .returned (.bool r) ∧ (r = true → c.Span) ∧ Below w.heap.size w w'

set_option maxHeartbeats 4000000 in
set_option maxRecDepth 100000 in
theorem good_ok (c : Cfg) (w : World) : Calls Tryz.prog 6 #[c.V] w (GoodPost c w) := by
  have HB0 := Ai.Aside.mk ((Below.refl w.heap.size w).alloc (Nat.le_refl _) (.cells #[.int .i64 c.b, .int .i64 c.p, .int .i64 c.c, .int .i64 c.s, .int .i64 c.m, .int .i64 c.x, .bool c.f] 23))
  have HC0 := Ai.Aside.mk (show CfgAt (w.alloc (.cells #[.int .i64 c.b, .int .i64 c.p, .int .i64 c.c, .int .i64 c.s, .int .i64 c.m, .int .i64 c.x, .bool c.f] 23)) w.heap.size c from heap_alloc_new w _)
  have HSP := Ai.Aside.mk (span_ok c)
  have HOF := Ai.Aside.mk (of16_ok c)
  unfold Cfg.V at HSP HOF ⊢
  by_cases hsp : c.Span
  · have HS := Ai.Aside.mk hsp
    clear hsp
    go_enter Tryz.func6, Tryz.ntmps6
    go_wp2_with (first | (go_at_call 36; go_loud (refine (HSP.out _).mono ?_; rintro e w1 ⟨r, rfl, hr, hb⟩; obtain rfl := hr.2 HS.out; have HC := Ai.Aside.mk (HC0.out.below hb); have HB := Ai.Aside.mk (HB0.out.trans (hb.mono HB0.out.size)); clear hr hb HC0 HB0; obtain ⟨c0, c1, c2, c3, c4, c5, c6⟩ := HC.out.facts)) | (go_at_call 37; go_loud (refine (HOF.out HS.out _).mono ?_; rintro e w1 ⟨t, rfl, hb⟩; have HC1 := Ai.Aside.mk (HC.out.below hb); have HB1 := Ai.Aside.mk (HB.out.trans (hb.mono HB.out.size)); have HB2 := Ai.Aside.mk (HB1.out.alloc HB1.out.size (.cells #[.int .i64 (t 0), .int .i64 (t 1), .int .i64 (t 2), .int .i64 (t 3), .int .i64 (t 4), .int .i64 (t 5), .int .i64 (t 6), .int .i64 (t 7), .int .i64 (t 8), .int .i64 (t 9), .int .i64 (t 10)] 86)); clear hb HC HB c0 c1 c2 c3 c4 c5 c6; obtain ⟨c0, c1, c2, c3, c4, c5, c6⟩ := (HC1.out.below ((Below.refl w1.heap.size w1).alloc (Nat.le_refl _) (.cells #[.int .i64 (t 0), .int .i64 (t 1), .int .i64 (t 2), .int .i64 (t 3), .int .i64 (t 4), .int .i64 (t 5), .int .i64 (t 6), .int .i64 (t 7), .int .i64 (t 8), .int .i64 (t 9), .int .i64 (t 10)] 86))).facts)))
    all_goals
      go_ret
      exact ⟨_, rfl, fun _ => HS.out, HB2.out⟩
  · have HS := Ai.Aside.mk hsp
    clear hsp
    go_enter Tryz.func6, Tryz.ntmps6
    go_wp2_with (first | (go_at_call 36; go_loud (refine (HSP.out _).mono ?_; rintro e w1 ⟨r, rfl, hr, hb⟩; obtain rfl : r = false := (by cases r with | false => rfl | true => exact absurd (hr.1 rfl) HS.out); have HB := Ai.Aside.mk (HB0.out.trans (hb.mono HB0.out.size)); clear hr hb HC0 HB0)))
    go_ret
    exact ⟨false, rfl, (fun h => by cases h), HB.out⟩
end Fi
end Go.Proofs.YtjmhkcfdmcjilaaGreat
