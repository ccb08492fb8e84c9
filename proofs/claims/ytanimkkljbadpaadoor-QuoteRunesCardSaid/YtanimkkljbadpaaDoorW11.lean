/- Walk: QuoteRunes. -/
import Derived.Test.YtanimkkljbadpaaDoorW10
import Derived.Test.YtanimkkljbadpaaDoorR1
set_option linter.unusedVariables false
set_option linter.unusedSimpArgs false
namespace Go.Proofs.YtanimkkljbadpaaDoor
open Go.Shelf Go.RowKit Q

set_option maxHeartbeats 2000000 in
set_option maxRecDepth 100000 in
theorem quoteRunes_ok (s : ByteArray) (n : Int) (w : World) (hT : Tabs w) (hs : s.size ≤ 140737488355328) (hn1 : -9223372036854775808 ≤ n) (hn2 : n ≤ 9223372036854775807) : Calls Tryd.prog 6 #[.string s, .int .i64 n] w (cutsOK s n w) := by
  have HB := Aside.mk (Below.refl w.heap.size w)
  have H0 := Aside.mk (awake_at w hT)
  obtain ⟨c, hc⟩ : ∃ c : ByteArray, LS c = cut (LS s) n := ⟨BA (cut (LS s) n), LS_BA _⟩
  have H1 := Aside.mk (cut_any w hT s c n hs hc)
  have H2 := Aside.mk (RefA.refCut_any w s c n hn1 hn2 hs hc)
  have H3 := Aside.mk (runes_any w hT s _ _ hs rfl rfl)
  have H4 := Aside.mk (RefA.refRunes_any w s _ _ hs rfl rfl)
  generalize goods (toks (LS s)) = a at *
  generalize bads (toks (LS s)) = b at *
  clear hc hT
  go_enter Tryd.func6, Tryd.ntmps6
  go_wp2_with (first | (go_at_call 9; refine (H0.out _ HB.out).mono ?_; rintro e w1 ⟨rfl, hb⟩; clear HB; have HB := Aside.mk hb; clear hb) | (go_at_call 16; refine (H3.out _ HB.out).mono ?_; rintro e w1 ⟨rfl, hb⟩; clear HB; have HB := Aside.mk hb; clear hb) | (go_at_call 14; refine (H4.out _ HB.out).mono ?_; rintro e w1 ⟨rfl, hb⟩; clear HB; have HB := Aside.mk hb; clear hb) | (go_at_call 12; refine (H1.out _ HB.out).mono ?_; rintro e w1 ⟨rfl, hb⟩; clear HB; have HB := Aside.mk hb; clear hb) | (go_at_call 17; refine (H2.out _ HB.out).mono ?_; rintro e w1 ⟨rfl, hb⟩; clear HB; have HB := Aside.mk hb; clear hb))
  go_ret
  exact ⟨rfl, HB.out⟩
end Go.Proofs.YtanimkkljbadpaaDoor
