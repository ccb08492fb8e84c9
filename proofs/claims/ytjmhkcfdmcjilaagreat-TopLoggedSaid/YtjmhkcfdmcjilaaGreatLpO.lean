/-
  Walks: span.Same of a flat map and a map of runs.
-/
import Derived.Test.YtjmhkcfdmcjilaaGreatLpN
set_option linter.unusedVariables false
set_option linter.unusedSimpArgs false
namespace Go.Proofs.YtjmhkcfdmcjilaaGreat
namespace Lo
open Go.RowKit Ai Fi

theorem num_tab {tb : List Int} (hT : okT tb) : ∀ x ∈ runsTo tb tb.length, Num tb.length x := (twin_of hT).1.1

def SamePost (w : World) (e : Ending) (w' : World) : Prop := e = .returned (.bool true) ∧ Below w.heap.size w w'

set_option maxHeartbeats 4000000 in
set_option maxRecDepth 100000 in
theorem sameFR_ok (w : World) (f fg cap m t a g : Nat) (Ar0 : Ar) (T : Tr) (tb : List Int) (hF : Flat w f 512 fg cap tb) (hM : RMap w m t a g tb.length Ar0 T) (hW : Twin tb (T.xs.map op3)) (hT : okT tb) (hl : tb.length ≤ 64) :
    Calls Tryz.prog 22 #[.iface 89 (.pointer (some ⟨f, 0, none⟩)), .iface 123 (.pointer (some ⟨m, 0, none⟩))] w (SamePost w) := by
  have H1 := Ai.Aside.mk (fcap_ok w f fg cap tb hF)
  have H2 := Ai.Aside.mk (rcap_ok w m t a g tb.length Ar0 T hM)
  have H3 := Ai.Aside.mk (runs_ok w f 512 fg cap tb hF hT.ok (by omega))
  have H4 := Ai.Aside.mk (fun W (hb : Below w.heap.size w W) => rruns_ok W m t a g tb.length Ar0 T tb (hM.below hb) hW hT)
  have HI := Ai.Aside.mk (num_in (num_tab hT) (by omega))
  have HL := Ai.Aside.mk (runsTo_length tb tb.length)
  have HLL := Ai.Aside.mk hl
  generalize runsTo tb tb.length = rs at *
  generalize tb.length = N at *
  clear hF hM hW hT hl
  go_enter Tryz.func22, Tryz.ntmps22
  go_wp2_with (first | (go_at_call 200; go_loud (refine H1.out.mono ?_; rintro e w1 ⟨rfl, hw⟩; have hw2 := hw.symm; clear hw; subst hw2)) | (go_at_call 207; go_loud (refine H2.out.mono ?_; rintro e w1 ⟨rfl, hw⟩; have hw2 := hw.symm; clear hw; subst hw2)) | (go_at_call 43; go_loud (refine H3.out.mono ?_; rintro e w2 ⟨v2, rfl, hown, hb⟩; obtain ⟨A2, c2, rfl, ha2, -⟩ := own3 hown HI.out; have HA2 := Ai.Aside.mk ha2; have HB2 := Ai.Aside.mk hb; clear hown hb ha2)) | (go_at_call 213; go_loud (refine (H4.out _ HB2.out).mono ?_; rintro e w3 ⟨v3, rfl, hown, hb⟩; obtain ⟨A3, c3, rfl, ha3, -⟩ := own3 hown HI.out; have HA3 := Ai.Aside.mk ha3; have HA4 := Ai.Aside.mk (HA2.out.below hb (Nat.le_refl _)); have HB3 := Ai.Aside.mk (HB2.out.trans (hb.mono HB2.out.size)); clear hown hb ha3)) | (go_at_call 65; go_loud (refine (equal_ok _ A2 A3 c2 c3 rs HA4.out HA3.out (by have := HL.out; have := HLL.out; omega)).mono ?_; rintro e w4 ⟨rfl, q, rfl⟩)))
  go_ret
  exact ⟨rfl, below_drewN HB3.out _⟩

set_option maxHeartbeats 4000000 in
set_option maxRecDepth 100000 in
theorem sameRF_ok (w : World) (f fg cap m t a g : Nat) (Ar0 : Ar) (T : Tr) (tb : List Int) (hF : Flat w f 512 fg cap tb) (hM : RMap w m t a g tb.length Ar0 T) (hW : Twin tb (T.xs.map op3)) (hT : okT tb) (hl : tb.length ≤ 64) :
    Calls Tryz.prog 22 #[.iface 123 (.pointer (some ⟨m, 0, none⟩)), .iface 89 (.pointer (some ⟨f, 0, none⟩))] w (SamePost w) := by
  have H1 := Ai.Aside.mk (fcap_ok w f fg cap tb hF)
  have H2 := Ai.Aside.mk (rcap_ok w m t a g tb.length Ar0 T hM)
  have H3 := Ai.Aside.mk (rruns_ok w m t a g tb.length Ar0 T tb hM hW hT)
  have H4 := Ai.Aside.mk (fun W (hb : Below w.heap.size w W) => runs_ok W f 512 fg cap tb (hF.below hb) hT.ok (by omega))
  have HI := Ai.Aside.mk (num_in (num_tab hT) (by omega))
  have HL := Ai.Aside.mk (runsTo_length tb tb.length)
  have HLL := Ai.Aside.mk hl
  generalize runsTo tb tb.length = rs at *
  generalize tb.length = N at *
  clear hF hM hW hT hl
  go_enter Tryz.func22, Tryz.ntmps22
  go_wp2_with (first | (go_at_call 200; go_loud (refine H1.out.mono ?_; rintro e w1 ⟨rfl, hw⟩; have hw2 := hw.symm; clear hw; subst hw2)) | (go_at_call 207; go_loud (refine H2.out.mono ?_; rintro e w1 ⟨rfl, hw⟩; have hw2 := hw.symm; clear hw; subst hw2)) | (go_at_call 213; go_loud (refine H3.out.mono ?_; rintro e w2 ⟨v2, rfl, hown, hb⟩; obtain ⟨A2, c2, rfl, ha2, -⟩ := own3 hown HI.out; have HA2 := Ai.Aside.mk ha2; have HB2 := Ai.Aside.mk hb; clear hown hb ha2)) | (go_at_call 43; go_loud (refine (H4.out _ HB2.out).mono ?_; rintro e w3 ⟨v3, rfl, hown, hb⟩; obtain ⟨A3, c3, rfl, ha3, -⟩ := own3 hown HI.out; have HA3 := Ai.Aside.mk ha3; have HA4 := Ai.Aside.mk (HA2.out.below hb (Nat.le_refl _)); have HB3 := Ai.Aside.mk (HB2.out.trans (hb.mono HB2.out.size)); clear hown hb ha3)) | (go_at_call 65; go_loud (refine (equal_ok _ A2 A3 c2 c3 rs HA4.out HA3.out (by have := HL.out; have := HLL.out; omega)).mono ?_; rintro e w4 ⟨rfl, q, rfl⟩)))
  go_ret
  exact ⟨rfl, below_drewN HB3.out _⟩
end Lo
end Go.Proofs.YtjmhkcfdmcjilaaGreat
