/-
  Walks of chapter 16's reference: Of, Good.
-/
import Derived.Test.YtjmhkcfdmcjilaaGreatFiQ
import Derived.Deep.DeepCutAuto
import Derived.Deep.RegionHeld3
set_option linter.unusedVariables false
set_option linter.unusedSimpArgs false
namespace Go.Proofs.YtjmhkcfdmcjilaaGreat
namespace Fi
open Go.RowKit Ai

/-- Two local structs: a Config, and eleven ints. -/
def TwoAt (w : World) (g h : Nat) (c : Cfg) (s : Nat → Int) : Prop :=
  (g + 1 < w.heap.size ∧ g + 1 ≠ h ∧ w.heap[g + 1]? = some (.cells #[.int .i64 0, .int .i64 0, .int .i64 0, .int .i64 0, .int .i64 0, .int .i64 0, .int .i64 0, .int .i64 0, .int .i64 0, .int .i64 0, .int .i64 0] 86 (0, 0))) ∧ g < w.heap.size ∧ h < w.heap.size ∧ g ≠ h ∧
  w.heap[g]? = some (.cells #[.int .i64 c.b, .int .i64 c.p, .int .i64 c.c, .int .i64 c.s, .int .i64 c.m, .int .i64 c.x, .bool c.f] 23 (0, 0)) ∧
  w.heap[h]? = some (.cells #[.int .i64 (s 0), .int .i64 (s 1), .int .i64 (s 2), .int .i64 (s 3), .int .i64 (s 4), .int .i64 (s 5), .int .i64 (s 6), .int .i64 (s 7), .int .i64 (s 8), .int .i64 (s 9), .int .i64 (s 10)] 86 (0, 0))

theorem TwoAt.below {w w' : World} {g h : Nat} {c : Cfg} {s : Nat → Int} (k : TwoAt w g h c s) (hb : Below w.heap.size w w') : TwoAt w' g h c s :=
  ⟨⟨Nat.lt_of_lt_of_le k.1.1 hb.size, k.1.2.1, by rw [hb.block _ k.1.1]; exact k.1.2.2⟩, Nat.lt_of_lt_of_le k.2.1 hb.size, Nat.lt_of_lt_of_le k.2.2.1 hb.size, k.2.2.2.1, by rw [hb.block _ k.2.1]; exact k.2.2.2.2.1, by rw [hb.block _ k.2.2.1]; exact k.2.2.2.2.2⟩

/-- The struct's number j is set. -/
def updT (s : Nat → Int) (j : Nat) (v : Int) : Nat → Int := fun i => if i = j then v else s i

theorem TwoAt.facts {w : World} {g h : Nat} {c : Cfg} {s : Nat → Int} (k : TwoAt w g h c s) :
    w.cell? ⟨g, 0, none⟩ = some (.int .i64 c.b) ∧ w.cell? ⟨g, 1, none⟩ = some (.int .i64 c.p) ∧ w.cell? ⟨g, 2, none⟩ = some (.int .i64 c.c) ∧ w.cell? ⟨g, 3, none⟩ = some (.int .i64 c.s) ∧ w.cell? ⟨g, 4, none⟩ = some (.int .i64 c.m) ∧ w.cell? ⟨g, 5, none⟩ = some (.int .i64 c.x) ∧
    (∀ j, w.frozen? ⟨h, j, none⟩ = false) ∧ (∀ j, j < 11 → w.cell? ⟨h, j, none⟩ = some (.int .i64 (s j))) := by
  obtain ⟨_, _, _, _, h1, h2⟩ := k
  refine ⟨by rw [cell_of_row _ _ _ _ _ _ h1]; rfl, by rw [cell_of_row _ _ _ _ _ _ h1]; rfl, by rw [cell_of_row _ _ _ _ _ _ h1]; rfl, by rw [cell_of_row _ _ _ _ _ _ h1]; rfl, by rw [cell_of_row _ _ _ _ _ _ h1]; rfl, by rw [cell_of_row _ _ _ _ _ _ h1]; rfl, fun j => frozen_of_row _ _ _ _ _ h2, fun j hj => ?_⟩
  rw [cell_of_row _ _ _ _ _ _ h2]
  rcases j with _ | _ | _ | _ | _ | _ | _ | _ | _ | _ | _ | j <;> first | rfl | omega

theorem TwoAt.res {w : World} {g h : Nat} {c : Cfg} {s : Nat → Int} (k : TwoAt w g h c s) : (∀ j, w.frozen? ⟨g + 1, j, none⟩ = false) ∧ (∀ j, j < 11 → w.cell? ⟨g + 1, j, none⟩ = some (.int .i64 0)) := by
  obtain ⟨⟨_, _, h2⟩, _⟩ := k
  refine ⟨fun j => frozen_of_row _ _ _ _ _ h2, fun j hj => ?_⟩
  rw [cell_of_row _ _ _ _ _ _ h2]
  rcases j with _ | _ | _ | _ | _ | _ | _ | _ | _ | _ | _ | j <;> first | rfl | omega

theorem TwoAt.set {w : World} {g h : Nat} {c : Cfg} {s : Nat → Int} (k : TwoAt w g h c s) (j : Nat) (hj : j < 11) (v : Int) : TwoAt (w.setCell ⟨h, j, none⟩ (.int .i64 v)) g h c (updT s j v) := by
  obtain ⟨h0, h1, h2, h3, h4, h5⟩ := k
  refine ⟨⟨by simpa [World.setCell] using h0.1, h0.2.1, (heap_setCell_other w ⟨h, j, none⟩ (g + 1) _ h0.2.1).trans h0.2.2⟩, by simpa [World.setCell] using h1, by simpa [World.setCell] using h2, h3, (heap_setCell_other w ⟨h, j, none⟩ g _ h3).trans h4, ?_⟩
  rw [heap_setCell_same w h j _ 86 _ h5]
  congr 2
  rcases j with _ | _ | _ | _ | _ | _ | _ | _ | _ | _ | _ | j <;> first | rfl | omega

theorem TwoAt.setD {w : World} {g h : Nat} {c : Cfg} {s : Nat → Int} (k : TwoAt w g h c s) (j : Nat) (hj : j < 11) (v : Int) : TwoAt (w.setCell ⟨h, j, none⟩ (.int .i64 v)).drew g h c (updT s j v) := k.set j hj v

def OfPost (w : World) (e : Ending) (w' : World) : Prop := ∃ s : Nat → Int, e = .returned (.agg #[.int .i64 (s 0), .int .i64 (s 1), .int .i64 (s 2), .int .i64 (s 3), .int .i64 (s 4), .int .i64 (s 5), .int .i64 (s 6), .int .i64 (s 7), .int .i64 (s 8), .int .i64 (s 9), .int .i64 (s 10)]) ∧ Below w.heap.size w w'

set_option maxHeartbeats 4000000 in
set_option maxRecDepth 100000 in
theorem of16_ok (c : Cfg) (hc : c.Span) (w : World) : Calls Tryz.prog 37 #[c.V] w (OfPost w) := by
  obtain ⟨b, p, cc, s, m, x, f⟩ := c
  unfold Cfg.V
  simp only [Cfg.Span] at hc
  obtain ⟨bp, hbp⟩ : ∃ bp : Int, bp = b * p := ⟨_, rfl⟩
  have hbb : 0 ≤ bp ∧ bp ≤ 2048 := by
    rw [hbp]
    refine ⟨Int.mul_nonneg (by omega) (by omega), ?_⟩
    calc b * p ≤ 64 * 32 := Int.mul_le_mul (by omega) (by omega) (by omega) (by omega)
      _ = 2048 := by decide
  have hw1 : IntKind.i64.wrap (b * p) = bp := by rw [← hbp, IntKind.wrap_i64]; omega
  clear hbp
  obtain ⟨W, hW⟩ : ∃ W, W = ((w.alloc (.cells #[.int .i64 b, .int .i64 p, .int .i64 cc, .int .i64 s, .int .i64 m, .int .i64 x, .bool f] 23)).alloc (.cells #[.int .i64 0, .int .i64 0, .int .i64 0, .int .i64 0, .int .i64 0, .int .i64 0, .int .i64 0, .int .i64 0, .int .i64 0, .int .i64 0, .int .i64 0] 86)).alloc (.cells #[.int .i64 0, .int .i64 0, .int .i64 0, .int .i64 0, .int .i64 0, .int .i64 0, .int .i64 0, .int .i64 0, .int .i64 0, .int .i64 0, .int .i64 0] 86) := ⟨_, rfl⟩
  have T0 := Ai.Aside.mk (show ∃ s0, TwoAt W w.heap.size (w.heap.size + 1 + 1) ⟨b, p, cc, s, m, x, f⟩ s0 from
    ⟨fun _ => 0, ⟨by rw [hW]; simp, by omega, by rw [hW, Below.heap_alloc _ _ _ (by simp)]; have := heap_alloc_new (w.alloc (.cells #[.int .i64 b, .int .i64 p, .int .i64 cc, .int .i64 s, .int .i64 m, .int .i64 x, .bool f] 23)) (.cells #[.int .i64 0, .int .i64 0, .int .i64 0, .int .i64 0, .int .i64 0, .int .i64 0, .int .i64 0, .int .i64 0, .int .i64 0, .int .i64 0, .int .i64 0] 86); simpa using this⟩, by rw [hW]; simp; omega, by rw [hW]; simp, by omega, by rw [hW, Below.heap_alloc _ _ _ (by simp; omega), Below.heap_alloc _ _ _ (by simp)]; exact heap_alloc_new _ _, by rw [hW]; have := heap_alloc_new ((w.alloc (.cells #[.int .i64 b, .int .i64 p, .int .i64 cc, .int .i64 s, .int .i64 m, .int .i64 x, .bool f] 23)).alloc (.cells #[.int .i64 0, .int .i64 0, .int .i64 0, .int .i64 0, .int .i64 0, .int .i64 0, .int .i64 0, .int .i64 0, .int .i64 0, .int .i64 0, .int .i64 0] 86)) (.cells #[.int .i64 0, .int .i64 0, .int .i64 0, .int .i64 0, .int .i64 0, .int .i64 0, .int .i64 0, .int .i64 0, .int .i64 0, .int .i64 0, .int .i64 0] 86); simpa using this⟩)
  have B0 := Ai.Aside.mk (show Below w.heap.size w W from by rw [hW]; exact (((Below.refl _ w).alloc (Nat.le_refl _) _).alloc (by simp) _).alloc (by simp; omega) _)
  have HGH := Ai.Aside.mk (show w.heap.size ≤ w.heap.size + 1 + 1 by omega)
  go_enter Tryz.func37, Tryz.ntmps37
  go_wp2_with fail
  rw [← hW]
  clear hW
  obtain ⟨s0, hT0⟩ := T0.out
  clear T0
  have T0 := Ai.Aside.mk hT0
  clear hT0
  obtain ⟨f0, f1, f2, f3, f4, f5, fz, fs⟩ := T0.out.facts
  go_wp2_with (first | (go_at_call 82; go_loud (refine (l_ok _ _).mono ?_; rintro e w1 ⟨r, rfl, hr1, hr2, hb⟩; have T1 := Ai.Aside.mk (T0.out.below hb); have B1 := Ai.Aside.mk (B0.out.trans (hb.mono B0.out.size)); clear T0 B0 hb f0 f1 f2 f3 f4 f5 fz fs; have T0 := T1; have B0 := B1; clear T1 B1; obtain ⟨f0, f1, f2, f3, f4, f5, fz, fs⟩ := T0.out.facts)) | (go_at_call 83; go_loud (refine (pages12_ok _ _).mono ?_; rintro e w1 ⟨r, rfl, rfl⟩)) | (go_at_call 84; go_loud (refine (up16_ok _ _ (by omega) _).mono ?_; rintro e w1 ⟨r, rfl, rfl⟩)))

  generalize hW0 : World.setCell _ _ _ = W0
  obtain ⟨s0, T1⟩ : ∃ s0, Ai.Aside (TwoAt W0 w.heap.size (w.heap.size + 1 + 1) ⟨b, p, cc, s, m, x, f⟩ s0) := ⟨_, ⟨hW0 ▸ T0.out.set 0 (by decide) _⟩⟩
  have B1 : Ai.Aside (Below w.heap.size w W0) := ⟨hW0 ▸ B0.out.setCell (p := ⟨w.heap.size + 1 + 1, 0, none⟩) HGH.out _⟩
  clear hW0 T0 B0 f0 f1 f2 f3 f4 f5 fz fs
  have T0 := T1
  have B0 := B1
  clear T1 B1
  obtain ⟨f0, f1, f2, f3, f4, f5, fz, fs⟩ := T0.out.facts
  -- DRAWS
  have T0p := T0
  have B0p := B0
  replace T0 : Ai.Aside (TwoAt W0.drew w.heap.size (w.heap.size + 1 + 1) ⟨b, p, cc, s, m, x, f⟩ _) := ⟨T0.out⟩
  replace B0 : Ai.Aside (Below w.heap.size w W0.drew) := ⟨B0.out.drew⟩
  go_region_held3 (fun W' => W'.cell? ⟨w.heap.size, 4, none⟩ = some (.int .i64 (m)) ∧ W'.cell? ⟨w.heap.size + 1 + 1, 0, none⟩ = some (.int .i64 (s0 0))) (first | exact ⟨f4, fs 0 (by decide)⟩ | exact ⟨(TwoAt.set T0.out 1 (by decide) _).facts.2.2.2.2.1, (TwoAt.set T0.out 1 (by decide) _).facts.2.2.2.2.2.2.2 0 (by decide)⟩ | (exact ⟨(TwoAt.setD T0p.out 1 (by decide) _).facts.2.2.2.2.1, (TwoAt.setD T0p.out 1 (by decide) _).facts.2.2.2.2.2.2.2 0 (by decide)⟩) | (go_keep; done)) (first | (go_at_call 82; go_loud (refine (l_ok _ _).mono ?_; rintro e w1 ⟨r, rfl, hr1, hr2, hb⟩; have T1 := Ai.Aside.mk (T0.out.below hb); have B1 := Ai.Aside.mk (B0.out.trans (hb.mono B0.out.size)); clear T0 B0 hb f0 f1 f2 f3 f4 f5 fz fs; have T0 := T1; have B0 := B1; clear T1 B1; obtain ⟨f0, f1, f2, f3, f4, f5, fz, fs⟩ := T0.out.facts)) | (go_at_call 83; go_loud (refine (pages12_ok _ _).mono ?_; rintro e w1 ⟨r, rfl, rfl⟩)) | (go_at_call 84; go_loud (refine (up16_ok _ _ (by omega) _).mono ?_; rintro e w1 ⟨r, rfl, rfl⟩)))
  generalize hW : World.setCell _ _ _ = W1
  obtain ⟨s1, T1⟩ : ∃ s1, Ai.Aside (TwoAt W1 w.heap.size (w.heap.size + 1 + 1) ⟨b, p, cc, s, m, x, f⟩ s1) := ⟨_, ⟨hW ▸ (T0.out.set 1 (by decide) _)⟩⟩
  have B1 : Ai.Aside (Below w.heap.size w W1) := ⟨hW ▸ (B0.out.setCell (p := ⟨w.heap.size + 1 + 1, 1, none⟩) HGH.out _)⟩
  (try clear T0p B0p)
  clear hW T0 B0 f0 f1 f2 f3 f4 f5 fz fs
  have T0 := T1
  have B0 := B1
  clear T1 B1
  obtain ⟨f0, f1, f2, f3, f4, f5, fz, fs⟩ := T0.out.facts
  go_wp2_with (first | (go_at_call 82; go_loud (refine (l_ok _ _).mono ?_; rintro e w1 ⟨r, rfl, hr1, hr2, hb⟩; have T1 := Ai.Aside.mk (T0.out.below hb); have B1 := Ai.Aside.mk (B0.out.trans (hb.mono B0.out.size)); clear T0 B0 hb f0 f1 f2 f3 f4 f5 fz fs; have T0 := T1; have B0 := B1; clear T1 B1; obtain ⟨f0, f1, f2, f3, f4, f5, fz, fs⟩ := T0.out.facts)) | (go_at_call 83; go_loud (refine (pages12_ok _ _).mono ?_; rintro e w1 ⟨r, rfl, rfl⟩)) | (go_at_call 84; go_loud (refine (up16_ok _ _ (by omega) _).mono ?_; rintro e w1 ⟨r, rfl, rfl⟩)))
  generalize hW : World.setCell _ _ _ = W2
  obtain ⟨s2, T1⟩ : ∃ s2, Ai.Aside (TwoAt W2 w.heap.size (w.heap.size + 1 + 1) ⟨b, p, cc, s, m, x, f⟩ s2) := ⟨_, ⟨hW ▸ (T0.out.set 2 (by decide) _)⟩⟩
  have B1 : Ai.Aside (Below w.heap.size w W2) := ⟨hW ▸ (B0.out.setCell (p := ⟨w.heap.size + 1 + 1, 2, none⟩) HGH.out _)⟩
  (try clear T0p B0p)
  clear hW T0 B0 f0 f1 f2 f3 f4 f5 fz fs
  have T0 := T1
  have B0 := B1
  clear T1 B1
  obtain ⟨f0, f1, f2, f3, f4, f5, fz, fs⟩ := T0.out.facts
  have T0p := T0
  have B0p := B0
  replace T0 : Ai.Aside (TwoAt W2.drew w.heap.size (w.heap.size + 1 + 1) ⟨b, p, cc, s, m, x, f⟩ _) := ⟨T0.out⟩
  replace B0 : Ai.Aside (Below w.heap.size w W2.drew) := ⟨B0.out.drew⟩
  go_region_held3 (fun W' => W'.cell? ⟨w.heap.size, 2, none⟩ = some (.int .i64 (cc)) ∧ W'.cell? ⟨w.heap.size, 1, none⟩ = some (.int .i64 (p))) (first | exact ⟨f2, f1⟩ | (go_keep; done)) (first | (go_at_call 82; go_loud (refine (l_ok _ _).mono ?_; rintro e w1 ⟨r, rfl, hr1, hr2, hb⟩; have T1 := Ai.Aside.mk (T0.out.below hb); have B1 := Ai.Aside.mk (B0.out.trans (hb.mono B0.out.size)); clear T0 B0 hb f0 f1 f2 f3 f4 f5 fz fs; have T0 := T1; have B0 := B1; clear T1 B1; obtain ⟨f0, f1, f2, f3, f4, f5, fz, fs⟩ := T0.out.facts)) | (go_at_call 83; go_loud (refine (pages12_ok _ _).mono ?_; rintro e w1 ⟨r, rfl, rfl⟩)) | (go_at_call 84; go_loud (refine (up16_ok _ _ (by omega) _).mono ?_; rintro e w1 ⟨r, rfl, rfl⟩)))
  generalize hW : World.drew _ = W3
  replace T0 : Ai.Aside (TwoAt W3 w.heap.size (w.heap.size + 1 + 1) ⟨b, p, cc, s, m, x, f⟩ _) := ⟨hW ▸ (show TwoAt W2.drew w.heap.size (w.heap.size + 1 + 1) ⟨b, p, cc, s, m, x, f⟩ _ from T0.out)⟩
  replace B0 : Ai.Aside (Below w.heap.size w W3) := ⟨hW ▸ (show Below w.heap.size w W2.drew from ⟨B0.out.os, B0.out.tape, B0.out.output, B0.out.size, B0.out.block⟩)⟩
  clear hW f0 f1 f2 f3 f4 f5 fz fs
  obtain ⟨f0, f1, f2, f3, f4, f5, fz, fs⟩ := T0.out.facts
  go_wp2_with fail
  · have T0p := T0
    have B0p := B0
    replace T0 : Ai.Aside (TwoAt W3.drew w.heap.size (w.heap.size + 1 + 1) ⟨b, p, cc, s, m, x, f⟩ _) := ⟨T0.out⟩
    replace B0 : Ai.Aside (Below w.heap.size w W3.drew) := ⟨B0.out.drew⟩
    go_region_held3 (fun W' => W'.cell? ⟨w.heap.size, 3, none⟩ = some (.int .i64 (s)) ∧ W'.cell? ⟨w.heap.size, 2, none⟩ = some (.int .i64 (cc)) ∧ W'.cell? ⟨w.heap.size, 1, none⟩ = some (.int .i64 (p))) (first | exact ⟨f3, f2, f1⟩ | exact ⟨(TwoAt.set T0.out 2 (by decide) _).facts.2.2.2.1, (TwoAt.set T0.out 2 (by decide) _).facts.2.2.1, (TwoAt.set T0.out 2 (by decide) _).facts.2.1⟩ | (exact ⟨(TwoAt.setD T0p.out 2 (by decide) _).facts.2.2.2.1, (TwoAt.setD T0p.out 2 (by decide) _).facts.2.2.1, (TwoAt.setD T0p.out 2 (by decide) _).facts.2.1⟩) | (go_keep; done)) (first | (go_at_call 82; go_loud (refine (l_ok _ _).mono ?_; rintro e w1 ⟨r, rfl, hr1, hr2, hb⟩; have T1 := Ai.Aside.mk (T0.out.below hb); have B1 := Ai.Aside.mk (B0.out.trans (hb.mono B0.out.size)); clear T0 B0 hb f0 f1 f2 f3 f4 f5 fz fs; have T0 := T1; have B0 := B1; clear T1 B1; obtain ⟨f0, f1, f2, f3, f4, f5, fz, fs⟩ := T0.out.facts)) | (go_at_call 83; go_loud (refine (pages12_ok _ _).mono ?_; rintro e w1 ⟨r, rfl, rfl⟩)) | (go_at_call 84; go_loud (refine (up16_ok _ _ (by omega) _).mono ?_; rintro e w1 ⟨r, rfl, rfl⟩)))
    generalize hW : World.setCell _ _ _ = W4
    obtain ⟨s4, T1⟩ : ∃ s4, Ai.Aside (TwoAt W4 w.heap.size (w.heap.size + 1 + 1) ⟨b, p, cc, s, m, x, f⟩ s4) := ⟨_, ⟨hW ▸ (T0p.out.set 2 (by decide) _)⟩⟩
    have B1 : Ai.Aside (Below w.heap.size w W4) := ⟨hW ▸ (B0p.out.setCell (p := ⟨w.heap.size + 1 + 1, 2, none⟩) HGH.out _)⟩
    (try clear T0p B0p)
    clear hW T0 B0 f0 f1 f2 f3 f4 f5 fz fs
    have T0 := T1
    have B0 := B1
    clear T1 B1
    obtain ⟨f0, f1, f2, f3, f4, f5, fz, fs⟩ := T0.out.facts
    generalize hW : World.drew _ = W5
    replace T0 : Ai.Aside (TwoAt W5 w.heap.size (w.heap.size + 1 + 1) ⟨b, p, cc, s, m, x, f⟩ _) := ⟨hW ▸ (show TwoAt W4.drew w.heap.size (w.heap.size + 1 + 1) ⟨b, p, cc, s, m, x, f⟩ _ from T0.out)⟩
    replace B0 : Ai.Aside (Below w.heap.size w W5) := ⟨hW ▸ (show Below w.heap.size w W4.drew from ⟨B0.out.os, B0.out.tape, B0.out.output, B0.out.size, B0.out.block⟩)⟩
    clear hW f0 f1 f2 f3 f4 f5 fz fs
    obtain ⟨f0, f1, f2, f3, f4, f5, fz, fs⟩ := T0.out.facts
    go_wp2_with fail
    have T0p := T0
    have B0p := B0
    replace T0 : Ai.Aside (TwoAt W5.drew w.heap.size (w.heap.size + 1 + 1) ⟨b, p, cc, s, m, x, f⟩ _) := ⟨T0.out⟩
    replace B0 : Ai.Aside (Below w.heap.size w W5.drew) := ⟨B0.out.drew⟩
    go_region_held3 (fun W' => W'.cell? ⟨w.heap.size, 2, none⟩ = some (.int .i64 (cc))) (first | exact f2 | exact (TwoAt.set T0.out 3 (by decide) _).facts.2.2.1 | (exact (TwoAt.setD T0p.out 3 (by decide) _).facts.2.2.1) | (go_keep; done)) (first | (go_at_call 82; go_loud (refine (l_ok _ _).mono ?_; rintro e w1 ⟨r, rfl, hr1, hr2, hb⟩; have T1 := Ai.Aside.mk (T0.out.below hb); have B1 := Ai.Aside.mk (B0.out.trans (hb.mono B0.out.size)); clear T0 B0 hb f0 f1 f2 f3 f4 f5 fz fs; have T0 := T1; have B0 := B1; clear T1 B1; obtain ⟨f0, f1, f2, f3, f4, f5, fz, fs⟩ := T0.out.facts)) | (go_at_call 83; go_loud (refine (pages12_ok _ _).mono ?_; rintro e w1 ⟨r, rfl, rfl⟩)) | (go_at_call 84; go_loud (refine (up16_ok _ _ (by omega) _).mono ?_; rintro e w1 ⟨r, rfl, rfl⟩)))
    generalize hW : World.setCell _ _ _ = W6
    obtain ⟨s6, T1⟩ : ∃ s6, Ai.Aside (TwoAt W6 w.heap.size (w.heap.size + 1 + 1) ⟨b, p, cc, s, m, x, f⟩ s6) := ⟨_, ⟨hW ▸ (T0.out.set 3 (by decide) _)⟩⟩
    have B1 : Ai.Aside (Below w.heap.size w W6) := ⟨hW ▸ (B0.out.setCell (p := ⟨w.heap.size + 1 + 1, 3, none⟩) HGH.out _)⟩
    (try clear T0p B0p)
    clear hW T0 B0 f0 f1 f2 f3 f4 f5 fz fs
    have T0 := T1
    have B0 := B1
    clear T1 B1
    obtain ⟨f0, f1, f2, f3, f4, f5, fz, fs⟩ := T0.out.facts
    go_wp2_with (first | (go_at_call 82; go_loud (refine (l_ok _ _).mono ?_; rintro e w1 ⟨r, rfl, hr1, hr2, hb⟩; have T1 := Ai.Aside.mk (T0.out.below hb); have B1 := Ai.Aside.mk (B0.out.trans (hb.mono B0.out.size)); clear T0 B0 hb f0 f1 f2 f3 f4 f5 fz fs; have T0 := T1; have B0 := B1; clear T1 B1; obtain ⟨f0, f1, f2, f3, f4, f5, fz, fs⟩ := T0.out.facts)) | (go_at_call 83; go_loud (refine (pages12_ok _ _).mono ?_; rintro e w1 ⟨r, rfl, rfl⟩)) | (go_at_call 84; go_loud (refine (up16_ok _ _ (by omega) _).mono ?_; rintro e w1 ⟨r, rfl, rfl⟩)))
    have T0p := T0
    have B0p := B0
    replace T0 : Ai.Aside (TwoAt W6.drew w.heap.size (w.heap.size + 1 + 1) ⟨b, p, cc, s, m, x, f⟩ _) := ⟨T0.out⟩
    replace B0 : Ai.Aside (Below w.heap.size w W6.drew) := ⟨B0.out.drew⟩
    go_region_held3 (fun W' => W'.cell? ⟨w.heap.size + 1 + 1, 2, none⟩ = some (.int .i64 (s6 2)) ∧ W'.cell? ⟨w.heap.size + 1 + 1, 3, none⟩ = some (.int .i64 (s6 3))) (first | exact ⟨fs 2 (by decide), fs 3 (by decide)⟩ | exact ⟨(TwoAt.set T0.out 4 (by decide) _).facts.2.2.2.2.2.2.2 2 (by decide), (TwoAt.set T0.out 4 (by decide) _).facts.2.2.2.2.2.2.2 3 (by decide)⟩ | (exact ⟨(TwoAt.setD T0p.out 4 (by decide) _).facts.2.2.2.2.2.2.2 2 (by decide), (TwoAt.setD T0p.out 4 (by decide) _).facts.2.2.2.2.2.2.2 3 (by decide)⟩) | (go_keep; done)) (first | (go_at_call 82; go_loud (refine (l_ok _ _).mono ?_; rintro e w1 ⟨r, rfl, hr1, hr2, hb⟩; have T1 := Ai.Aside.mk (T0.out.below hb); have B1 := Ai.Aside.mk (B0.out.trans (hb.mono B0.out.size)); clear T0 B0 hb f0 f1 f2 f3 f4 f5 fz fs; have T0 := T1; have B0 := B1; clear T1 B1; obtain ⟨f0, f1, f2, f3, f4, f5, fz, fs⟩ := T0.out.facts)) | (go_at_call 83; go_loud (refine (pages12_ok _ _).mono ?_; rintro e w1 ⟨r, rfl, rfl⟩)) | (go_at_call 84; go_loud (refine (up16_ok _ _ (by omega) _).mono ?_; rintro e w1 ⟨r, rfl, rfl⟩)))
    generalize hW : World.setCell _ _ _ = W7
    obtain ⟨s7, T1⟩ : ∃ s7, Ai.Aside (TwoAt W7 w.heap.size (w.heap.size + 1 + 1) ⟨b, p, cc, s, m, x, f⟩ s7) := ⟨_, ⟨hW ▸ (T0.out.set 4 (by decide) _)⟩⟩
    have B1 : Ai.Aside (Below w.heap.size w W7) := ⟨hW ▸ (B0.out.setCell (p := ⟨w.heap.size + 1 + 1, 4, none⟩) HGH.out _)⟩
    (try clear T0p B0p)
    clear hW T0 B0 f0 f1 f2 f3 f4 f5 fz fs
    have T0 := T1
    have B0 := B1
    clear T1 B1
    obtain ⟨f0, f1, f2, f3, f4, f5, fz, fs⟩ := T0.out.facts
    go_wp2_with (first | (go_at_call 82; go_loud (refine (l_ok _ _).mono ?_; rintro e w1 ⟨r, rfl, hr1, hr2, hb⟩; have T1 := Ai.Aside.mk (T0.out.below hb); have B1 := Ai.Aside.mk (B0.out.trans (hb.mono B0.out.size)); clear T0 B0 hb f0 f1 f2 f3 f4 f5 fz fs; have T0 := T1; have B0 := B1; clear T1 B1; obtain ⟨f0, f1, f2, f3, f4, f5, fz, fs⟩ := T0.out.facts)) | (go_at_call 83; go_loud (refine (pages12_ok _ _).mono ?_; rintro e w1 ⟨r, rfl, rfl⟩)) | (go_at_call 84; go_loud (refine (up16_ok _ _ (by omega) _).mono ?_; rintro e w1 ⟨r, rfl, rfl⟩)))
    generalize hW : World.setCell _ _ _ = W8
    obtain ⟨s8, T1⟩ : ∃ s8, Ai.Aside (TwoAt W8 w.heap.size (w.heap.size + 1 + 1) ⟨b, p, cc, s, m, x, f⟩ s8) := ⟨_, ⟨hW ▸ ((T0.out.set 5 (by decide) _).set 6 (by decide) _)⟩⟩
    have B1 : Ai.Aside (Below w.heap.size w W8) := ⟨hW ▸ ((B0.out.setCell (p := ⟨w.heap.size + 1 + 1, 5, none⟩) HGH.out _).setCell (p := ⟨w.heap.size + 1 + 1, 6, none⟩) HGH.out _)⟩
    (try clear T0p B0p)
    clear hW T0 B0 f0 f1 f2 f3 f4 f5 fz fs
    have T0 := T1
    have B0 := B1
    clear T1 B1
    obtain ⟨f0, f1, f2, f3, f4, f5, fz, fs⟩ := T0.out.facts
    have T0p := T0
    have B0p := B0
    replace T0 : Ai.Aside (TwoAt W8.drew w.heap.size (w.heap.size + 1 + 1) ⟨b, p, cc, s, m, x, f⟩ _) := ⟨T0.out⟩
    replace B0 : Ai.Aside (Below w.heap.size w W8.drew) := ⟨B0.out.drew⟩
    go_region_held3 (fun W' => W'.cell? ⟨w.heap.size + 1 + 1, 6, none⟩ = some (.int .i64 (s8 6)) ∧ W'.cell? ⟨w.heap.size + 1 + 1, 1, none⟩ = some (.int .i64 (s8 1)) ∧ W'.cell? ⟨w.heap.size, 1, none⟩ = some (.int .i64 (p))) (first | exact ⟨fs 6 (by decide), fs 1 (by decide), f1⟩ | exact ⟨(TwoAt.set T0.out 7 (by decide) _).facts.2.2.2.2.2.2.2 6 (by decide), (TwoAt.set T0.out 7 (by decide) _).facts.2.2.2.2.2.2.2 1 (by decide), (TwoAt.set T0.out 7 (by decide) _).facts.2.1⟩ | (exact ⟨(TwoAt.setD T0p.out 7 (by decide) _).facts.2.2.2.2.2.2.2 6 (by decide), (TwoAt.setD T0p.out 7 (by decide) _).facts.2.2.2.2.2.2.2 1 (by decide), (TwoAt.setD T0p.out 7 (by decide) _).facts.2.1⟩) | (go_keep; done)) (first | (go_at_call 82; go_loud (refine (l_ok _ _).mono ?_; rintro e w1 ⟨r, rfl, hr1, hr2, hb⟩; have T1 := Ai.Aside.mk (T0.out.below hb); have B1 := Ai.Aside.mk (B0.out.trans (hb.mono B0.out.size)); clear T0 B0 hb f0 f1 f2 f3 f4 f5 fz fs; have T0 := T1; have B0 := B1; clear T1 B1; obtain ⟨f0, f1, f2, f3, f4, f5, fz, fs⟩ := T0.out.facts)) | (go_at_call 83; go_loud (refine (pages12_ok _ _).mono ?_; rintro e w1 ⟨r, rfl, rfl⟩)) | (go_at_call 84; go_loud (refine (up16_ok _ _ (by omega) _).mono ?_; rintro e w1 ⟨r, rfl, rfl⟩)))
    generalize hW : World.setCell _ _ _ = W9
    obtain ⟨s9, T1⟩ : ∃ s9, Ai.Aside (TwoAt W9 w.heap.size (w.heap.size + 1 + 1) ⟨b, p, cc, s, m, x, f⟩ s9) := ⟨_, ⟨hW ▸ (T0p.out.set 7 (by decide) _)⟩⟩
    have B1 : Ai.Aside (Below w.heap.size w W9) := ⟨hW ▸ (B0p.out.setCell (p := ⟨w.heap.size + 1 + 1, 7, none⟩) HGH.out _)⟩
    (try clear T0p B0p)
    clear hW T0 B0 f0 f1 f2 f3 f4 f5 fz fs
    have T0 := T1
    have B0 := B1
    clear T1 B1
    obtain ⟨f0, f1, f2, f3, f4, f5, fz, fs⟩ := T0.out.facts
    generalize hW : World.drew _ = W10
    replace T0 : Ai.Aside (TwoAt W10 w.heap.size (w.heap.size + 1 + 1) ⟨b, p, cc, s, m, x, f⟩ _) := ⟨hW ▸ (show TwoAt W9.drew w.heap.size (w.heap.size + 1 + 1) ⟨b, p, cc, s, m, x, f⟩ _ from T0.out)⟩
    replace B0 : Ai.Aside (Below w.heap.size w W10) := ⟨hW ▸ (show Below w.heap.size w W9.drew from ⟨B0.out.os, B0.out.tape, B0.out.output, B0.out.size, B0.out.block⟩)⟩
    clear hW f0 f1 f2 f3 f4 f5 fz fs
    obtain ⟨f0, f1, f2, f3, f4, f5, fz, fs⟩ := T0.out.facts
    go_wp2_with (first | (go_at_call 82; go_loud (refine (l_ok _ _).mono ?_; rintro e w1 ⟨r, rfl, hr1, hr2, hb⟩; have T1 := Ai.Aside.mk (T0.out.below hb); have B1 := Ai.Aside.mk (B0.out.trans (hb.mono B0.out.size)); clear T0 B0 hb f0 f1 f2 f3 f4 f5 fz fs; have T0 := T1; have B0 := B1; clear T1 B1; obtain ⟨f0, f1, f2, f3, f4, f5, fz, fs⟩ := T0.out.facts)) | (go_at_call 83; go_loud (refine (pages12_ok _ _).mono ?_; rintro e w1 ⟨r, rfl, rfl⟩)) | (go_at_call 84; go_loud (refine (up16_ok _ _ (by omega) _).mono ?_; rintro e w1 ⟨r, rfl, rfl⟩)))
    generalize hW : World.setCell _ _ _ = W11
    obtain ⟨s11, T1⟩ : ∃ s11, Ai.Aside (TwoAt W11 w.heap.size (w.heap.size + 1 + 1) ⟨b, p, cc, s, m, x, f⟩ s11) := ⟨_, ⟨hW ▸ (T0.out.set 8 (by decide) _)⟩⟩
    have B1 : Ai.Aside (Below w.heap.size w W11) := ⟨hW ▸ (B0.out.setCell (p := ⟨w.heap.size + 1 + 1, 8, none⟩) HGH.out _)⟩
    (try clear T0p B0p)
    clear hW T0 B0 f0 f1 f2 f3 f4 f5 fz fs
    have T0 := T1
    have B0 := B1
    clear T1 B1
    obtain ⟨f0, f1, f2, f3, f4, f5, fz, fs⟩ := T0.out.facts
    have T0p := T0
    have B0p := B0
    replace T0 : Ai.Aside (TwoAt W11.drew w.heap.size (w.heap.size + 1 + 1) ⟨b, p, cc, s, m, x, f⟩ _) := ⟨T0.out⟩
    replace B0 : Ai.Aside (Below w.heap.size w W11.drew) := ⟨B0.out.drew⟩
    go_region_held3 (fun W' => W'.cell? ⟨w.heap.size, 2, none⟩ = some (.int .i64 (cc)) ∧ W'.cell? ⟨w.heap.size, 1, none⟩ = some (.int .i64 (p)) ∧ W'.cell? ⟨w.heap.size, 3, none⟩ = some (.int .i64 (s))) (first | exact ⟨f2, f1, f3⟩ | exact ⟨(TwoAt.set T0.out 9 (by decide) _).facts.2.2.1, (TwoAt.set T0.out 9 (by decide) _).facts.2.1, (TwoAt.set T0.out 9 (by decide) _).facts.2.2.2.1⟩ | (exact ⟨(TwoAt.setD T0p.out 9 (by decide) _).facts.2.2.1, (TwoAt.setD T0p.out 9 (by decide) _).facts.2.1, (TwoAt.setD T0p.out 9 (by decide) _).facts.2.2.2.1⟩) | (go_keep; done)) (first | (go_at_call 82; go_loud (refine (l_ok _ _).mono ?_; rintro e w1 ⟨r, rfl, hr1, hr2, hb⟩; have T1 := Ai.Aside.mk (T0.out.below hb); have B1 := Ai.Aside.mk (B0.out.trans (hb.mono B0.out.size)); clear T0 B0 hb f0 f1 f2 f3 f4 f5 fz fs; have T0 := T1; have B0 := B1; clear T1 B1; obtain ⟨f0, f1, f2, f3, f4, f5, fz, fs⟩ := T0.out.facts)) | (go_at_call 83; go_loud (refine (pages12_ok _ _).mono ?_; rintro e w1 ⟨r, rfl, rfl⟩)) | (go_at_call 84; go_loud (refine (up16_ok _ _ (by omega) _).mono ?_; rintro e w1 ⟨r, rfl, rfl⟩)))
    generalize hW : World.setCell _ _ _ = W12
    obtain ⟨s12, T1⟩ : ∃ s12, Ai.Aside (TwoAt W12 w.heap.size (w.heap.size + 1 + 1) ⟨b, p, cc, s, m, x, f⟩ s12) := ⟨_, ⟨hW ▸ (T0p.out.set 9 (by decide) _)⟩⟩
    have B1 : Ai.Aside (Below w.heap.size w W12) := ⟨hW ▸ (B0p.out.setCell (p := ⟨w.heap.size + 1 + 1, 9, none⟩) HGH.out _)⟩
    (try clear T0p B0p)
    clear hW T0 B0 f0 f1 f2 f3 f4 f5 fz fs
    have T0 := T1
    have B0 := B1
    clear T1 B1
    obtain ⟨f0, f1, f2, f3, f4, f5, fz, fs⟩ := T0.out.facts
    generalize hW : World.drew _ = W13
    replace T0 : Ai.Aside (TwoAt W13 w.heap.size (w.heap.size + 1 + 1) ⟨b, p, cc, s, m, x, f⟩ _) := ⟨hW ▸ (show TwoAt W12.drew w.heap.size (w.heap.size + 1 + 1) ⟨b, p, cc, s, m, x, f⟩ _ from T0.out)⟩
    replace B0 : Ai.Aside (Below w.heap.size w W13) := ⟨hW ▸ (show Below w.heap.size w W12.drew from ⟨B0.out.os, B0.out.tape, B0.out.output, B0.out.size, B0.out.block⟩)⟩
    clear hW f0 f1 f2 f3 f4 f5 fz fs
    obtain ⟨f0, f1, f2, f3, f4, f5, fz, fs⟩ := T0.out.facts
    go_upto_region 16 with (fail)
    generalize hW : World.setCell _ _ _ = W14
    obtain ⟨s14, T1⟩ : ∃ s14, Ai.Aside (TwoAt W14 w.heap.size (w.heap.size + 1 + 1) ⟨b, p, cc, s, m, x, f⟩ s14) := ⟨_, ⟨hW ▸ (T0.out.set 10 (by decide) _)⟩⟩
    have B1 : Ai.Aside (Below w.heap.size w W14) := ⟨hW ▸ (B0.out.setCell (p := ⟨w.heap.size + 1 + 1, 10, none⟩) HGH.out _)⟩
    (try clear T0p B0p)
    clear hW T0 B0 f0 f1 f2 f3 f4 f5 fz fs
    have T0 := T1
    have B0 := B1
    clear T1 B1
    obtain ⟨f0, f1, f2, f3, f4, f5, fz, fs⟩ := T0.out.facts
    have HT := Ai.Aside.mk (there11 T0.out.res.1 T0.out.res.2)
    have HRG := Ai.Aside.mk (range11 fs)
    clear f0 f1 f2 f3 f4 f5 fz fs
    rename_i K hK
    apply wp_region_lit
    refine wpList_load_mid rfl 86 (.tmp 3) rfl (w.heap.size + 1 + 1) 0 (by kernel_rfl) (L11 s14) _ HRG.out Tryz.underlying86 rfl (by kernel_rfl) ?_
    refine wpList_store_mid rfl 86 (.tmp 2) (.tmp 143) rfl (w.heap.size + 1) 0 (L11 s14).toArray (by kernel_rfl) (by kernel_rfl) HT.out (by kernel_rfl) (all_oneCell_toArray (one11 s14)) ?_
    refine wpList_nil ?_
    refine hK _ _ (wp_ret ?_)
    refine bodyPost_ret (res_cell (p := 2) (ty := 86) rfl _ _ (w.heap.size + 1) (L11 s14) _ (by kernel_rfl) (World.rangeAt_setCells_same _ _ _ _ HT.out) Tryz.underlying86 rfl (by kernel_rfl)) (by kernel_rfl) ?_
    exact ⟨s14, (by kernel_rfl), below_setCells (by omega) _ _ B0.out⟩
  · go_wp2_with fail
    have T0p := T0
    have B0p := B0
    replace T0 : Ai.Aside (TwoAt W3.drew w.heap.size (w.heap.size + 1 + 1) ⟨b, p, cc, s, m, x, f⟩ _) := ⟨T0.out⟩
    replace B0 : Ai.Aside (Below w.heap.size w W3.drew) := ⟨B0.out.drew⟩
    go_region_held3 (fun W' => W'.cell? ⟨w.heap.size, 2, none⟩ = some (.int .i64 (cc))) (first | exact f2 | exact (TwoAt.set T0.out 3 (by decide) _).facts.2.2.1 | (exact (TwoAt.setD T0p.out 3 (by decide) _).facts.2.2.1) | (go_keep; done)) (first | (go_at_call 82; go_loud (refine (l_ok _ _).mono ?_; rintro e w1 ⟨r, rfl, hr1, hr2, hb⟩; have T1 := Ai.Aside.mk (T0.out.below hb); have B1 := Ai.Aside.mk (B0.out.trans (hb.mono B0.out.size)); clear T0 B0 hb f0 f1 f2 f3 f4 f5 fz fs; have T0 := T1; have B0 := B1; clear T1 B1; obtain ⟨f0, f1, f2, f3, f4, f5, fz, fs⟩ := T0.out.facts)) | (go_at_call 83; go_loud (refine (pages12_ok _ _).mono ?_; rintro e w1 ⟨r, rfl, rfl⟩)) | (go_at_call 84; go_loud (refine (up16_ok _ _ (by omega) _).mono ?_; rintro e w1 ⟨r, rfl, rfl⟩)))
    generalize hW : World.setCell _ _ _ = W6
    obtain ⟨s6, T1⟩ : ∃ s6, Ai.Aside (TwoAt W6 w.heap.size (w.heap.size + 1 + 1) ⟨b, p, cc, s, m, x, f⟩ s6) := ⟨_, ⟨hW ▸ (T0.out.set 3 (by decide) _)⟩⟩
    have B1 : Ai.Aside (Below w.heap.size w W6) := ⟨hW ▸ (B0.out.setCell (p := ⟨w.heap.size + 1 + 1, 3, none⟩) HGH.out _)⟩
    (try clear T0p B0p)
    clear hW T0 B0 f0 f1 f2 f3 f4 f5 fz fs
    have T0 := T1
    have B0 := B1
    clear T1 B1
    obtain ⟨f0, f1, f2, f3, f4, f5, fz, fs⟩ := T0.out.facts
    go_wp2_with (first | (go_at_call 82; go_loud (refine (l_ok _ _).mono ?_; rintro e w1 ⟨r, rfl, hr1, hr2, hb⟩; have T1 := Ai.Aside.mk (T0.out.below hb); have B1 := Ai.Aside.mk (B0.out.trans (hb.mono B0.out.size)); clear T0 B0 hb f0 f1 f2 f3 f4 f5 fz fs; have T0 := T1; have B0 := B1; clear T1 B1; obtain ⟨f0, f1, f2, f3, f4, f5, fz, fs⟩ := T0.out.facts)) | (go_at_call 83; go_loud (refine (pages12_ok _ _).mono ?_; rintro e w1 ⟨r, rfl, rfl⟩)) | (go_at_call 84; go_loud (refine (up16_ok _ _ (by omega) _).mono ?_; rintro e w1 ⟨r, rfl, rfl⟩)))
    have T0p := T0
    have B0p := B0
    replace T0 : Ai.Aside (TwoAt W6.drew w.heap.size (w.heap.size + 1 + 1) ⟨b, p, cc, s, m, x, f⟩ _) := ⟨T0.out⟩
    replace B0 : Ai.Aside (Below w.heap.size w W6.drew) := ⟨B0.out.drew⟩
    go_region_held3 (fun W' => W'.cell? ⟨w.heap.size + 1 + 1, 2, none⟩ = some (.int .i64 (s6 2)) ∧ W'.cell? ⟨w.heap.size + 1 + 1, 3, none⟩ = some (.int .i64 (s6 3))) (first | exact ⟨fs 2 (by decide), fs 3 (by decide)⟩ | exact ⟨(TwoAt.set T0.out 4 (by decide) _).facts.2.2.2.2.2.2.2 2 (by decide), (TwoAt.set T0.out 4 (by decide) _).facts.2.2.2.2.2.2.2 3 (by decide)⟩ | (exact ⟨(TwoAt.setD T0p.out 4 (by decide) _).facts.2.2.2.2.2.2.2 2 (by decide), (TwoAt.setD T0p.out 4 (by decide) _).facts.2.2.2.2.2.2.2 3 (by decide)⟩) | (go_keep; done)) (first | (go_at_call 82; go_loud (refine (l_ok _ _).mono ?_; rintro e w1 ⟨r, rfl, hr1, hr2, hb⟩; have T1 := Ai.Aside.mk (T0.out.below hb); have B1 := Ai.Aside.mk (B0.out.trans (hb.mono B0.out.size)); clear T0 B0 hb f0 f1 f2 f3 f4 f5 fz fs; have T0 := T1; have B0 := B1; clear T1 B1; obtain ⟨f0, f1, f2, f3, f4, f5, fz, fs⟩ := T0.out.facts)) | (go_at_call 83; go_loud (refine (pages12_ok _ _).mono ?_; rintro e w1 ⟨r, rfl, rfl⟩)) | (go_at_call 84; go_loud (refine (up16_ok _ _ (by omega) _).mono ?_; rintro e w1 ⟨r, rfl, rfl⟩)))
    generalize hW : World.setCell _ _ _ = W7
    obtain ⟨s7, T1⟩ : ∃ s7, Ai.Aside (TwoAt W7 w.heap.size (w.heap.size + 1 + 1) ⟨b, p, cc, s, m, x, f⟩ s7) := ⟨_, ⟨hW ▸ (T0.out.set 4 (by decide) _)⟩⟩
    have B1 : Ai.Aside (Below w.heap.size w W7) := ⟨hW ▸ (B0.out.setCell (p := ⟨w.heap.size + 1 + 1, 4, none⟩) HGH.out _)⟩
    (try clear T0p B0p)
    clear hW T0 B0 f0 f1 f2 f3 f4 f5 fz fs
    have T0 := T1
    have B0 := B1
    clear T1 B1
    obtain ⟨f0, f1, f2, f3, f4, f5, fz, fs⟩ := T0.out.facts
    go_wp2_with (first | (go_at_call 82; go_loud (refine (l_ok _ _).mono ?_; rintro e w1 ⟨r, rfl, hr1, hr2, hb⟩; have T1 := Ai.Aside.mk (T0.out.below hb); have B1 := Ai.Aside.mk (B0.out.trans (hb.mono B0.out.size)); clear T0 B0 hb f0 f1 f2 f3 f4 f5 fz fs; have T0 := T1; have B0 := B1; clear T1 B1; obtain ⟨f0, f1, f2, f3, f4, f5, fz, fs⟩ := T0.out.facts)) | (go_at_call 83; go_loud (refine (pages12_ok _ _).mono ?_; rintro e w1 ⟨r, rfl, rfl⟩)) | (go_at_call 84; go_loud (refine (up16_ok _ _ (by omega) _).mono ?_; rintro e w1 ⟨r, rfl, rfl⟩)))
    generalize hW : World.setCell _ _ _ = W8
    obtain ⟨s8, T1⟩ : ∃ s8, Ai.Aside (TwoAt W8 w.heap.size (w.heap.size + 1 + 1) ⟨b, p, cc, s, m, x, f⟩ s8) := ⟨_, ⟨hW ▸ ((T0.out.set 5 (by decide) _).set 6 (by decide) _)⟩⟩
    have B1 : Ai.Aside (Below w.heap.size w W8) := ⟨hW ▸ ((B0.out.setCell (p := ⟨w.heap.size + 1 + 1, 5, none⟩) HGH.out _).setCell (p := ⟨w.heap.size + 1 + 1, 6, none⟩) HGH.out _)⟩
    (try clear T0p B0p)
    clear hW T0 B0 f0 f1 f2 f3 f4 f5 fz fs
    have T0 := T1
    have B0 := B1
    clear T1 B1
    obtain ⟨f0, f1, f2, f3, f4, f5, fz, fs⟩ := T0.out.facts
    have T0p := T0
    have B0p := B0
    replace T0 : Ai.Aside (TwoAt W8.drew w.heap.size (w.heap.size + 1 + 1) ⟨b, p, cc, s, m, x, f⟩ _) := ⟨T0.out⟩
    replace B0 : Ai.Aside (Below w.heap.size w W8.drew) := ⟨B0.out.drew⟩
    go_region_held3 (fun W' => W'.cell? ⟨w.heap.size + 1 + 1, 6, none⟩ = some (.int .i64 (s8 6)) ∧ W'.cell? ⟨w.heap.size + 1 + 1, 1, none⟩ = some (.int .i64 (s8 1)) ∧ W'.cell? ⟨w.heap.size, 1, none⟩ = some (.int .i64 (p))) (first | exact ⟨fs 6 (by decide), fs 1 (by decide), f1⟩ | exact ⟨(TwoAt.set T0.out 7 (by decide) _).facts.2.2.2.2.2.2.2 6 (by decide), (TwoAt.set T0.out 7 (by decide) _).facts.2.2.2.2.2.2.2 1 (by decide), (TwoAt.set T0.out 7 (by decide) _).facts.2.1⟩ | (exact ⟨(TwoAt.setD T0p.out 7 (by decide) _).facts.2.2.2.2.2.2.2 6 (by decide), (TwoAt.setD T0p.out 7 (by decide) _).facts.2.2.2.2.2.2.2 1 (by decide), (TwoAt.setD T0p.out 7 (by decide) _).facts.2.1⟩) | (go_keep; done)) (first | (go_at_call 82; go_loud (refine (l_ok _ _).mono ?_; rintro e w1 ⟨r, rfl, hr1, hr2, hb⟩; have T1 := Ai.Aside.mk (T0.out.below hb); have B1 := Ai.Aside.mk (B0.out.trans (hb.mono B0.out.size)); clear T0 B0 hb f0 f1 f2 f3 f4 f5 fz fs; have T0 := T1; have B0 := B1; clear T1 B1; obtain ⟨f0, f1, f2, f3, f4, f5, fz, fs⟩ := T0.out.facts)) | (go_at_call 83; go_loud (refine (pages12_ok _ _).mono ?_; rintro e w1 ⟨r, rfl, rfl⟩)) | (go_at_call 84; go_loud (refine (up16_ok _ _ (by omega) _).mono ?_; rintro e w1 ⟨r, rfl, rfl⟩)))
    generalize hW : World.setCell _ _ _ = W9
    obtain ⟨s9, T1⟩ : ∃ s9, Ai.Aside (TwoAt W9 w.heap.size (w.heap.size + 1 + 1) ⟨b, p, cc, s, m, x, f⟩ s9) := ⟨_, ⟨hW ▸ (T0p.out.set 7 (by decide) _)⟩⟩
    have B1 : Ai.Aside (Below w.heap.size w W9) := ⟨hW ▸ (B0p.out.setCell (p := ⟨w.heap.size + 1 + 1, 7, none⟩) HGH.out _)⟩
    (try clear T0p B0p)
    clear hW T0 B0 f0 f1 f2 f3 f4 f5 fz fs
    have T0 := T1
    have B0 := B1
    clear T1 B1
    obtain ⟨f0, f1, f2, f3, f4, f5, fz, fs⟩ := T0.out.facts
    generalize hW : World.drew _ = W10
    replace T0 : Ai.Aside (TwoAt W10 w.heap.size (w.heap.size + 1 + 1) ⟨b, p, cc, s, m, x, f⟩ _) := ⟨hW ▸ (show TwoAt W9.drew w.heap.size (w.heap.size + 1 + 1) ⟨b, p, cc, s, m, x, f⟩ _ from T0.out)⟩
    replace B0 : Ai.Aside (Below w.heap.size w W10) := ⟨hW ▸ (show Below w.heap.size w W9.drew from ⟨B0.out.os, B0.out.tape, B0.out.output, B0.out.size, B0.out.block⟩)⟩
    clear hW f0 f1 f2 f3 f4 f5 fz fs
    obtain ⟨f0, f1, f2, f3, f4, f5, fz, fs⟩ := T0.out.facts
    go_wp2_with (first | (go_at_call 82; go_loud (refine (l_ok _ _).mono ?_; rintro e w1 ⟨r, rfl, hr1, hr2, hb⟩; have T1 := Ai.Aside.mk (T0.out.below hb); have B1 := Ai.Aside.mk (B0.out.trans (hb.mono B0.out.size)); clear T0 B0 hb f0 f1 f2 f3 f4 f5 fz fs; have T0 := T1; have B0 := B1; clear T1 B1; obtain ⟨f0, f1, f2, f3, f4, f5, fz, fs⟩ := T0.out.facts)) | (go_at_call 83; go_loud (refine (pages12_ok _ _).mono ?_; rintro e w1 ⟨r, rfl, rfl⟩)) | (go_at_call 84; go_loud (refine (up16_ok _ _ (by omega) _).mono ?_; rintro e w1 ⟨r, rfl, rfl⟩)))
    generalize hW : World.setCell _ _ _ = W11
    obtain ⟨s11, T1⟩ : ∃ s11, Ai.Aside (TwoAt W11 w.heap.size (w.heap.size + 1 + 1) ⟨b, p, cc, s, m, x, f⟩ s11) := ⟨_, ⟨hW ▸ (T0.out.set 8 (by decide) _)⟩⟩
    have B1 : Ai.Aside (Below w.heap.size w W11) := ⟨hW ▸ (B0.out.setCell (p := ⟨w.heap.size + 1 + 1, 8, none⟩) HGH.out _)⟩
    (try clear T0p B0p)
    clear hW T0 B0 f0 f1 f2 f3 f4 f5 fz fs
    have T0 := T1
    have B0 := B1
    clear T1 B1
    obtain ⟨f0, f1, f2, f3, f4, f5, fz, fs⟩ := T0.out.facts
    have T0p := T0
    have B0p := B0
    replace T0 : Ai.Aside (TwoAt W11.drew w.heap.size (w.heap.size + 1 + 1) ⟨b, p, cc, s, m, x, f⟩ _) := ⟨T0.out⟩
    replace B0 : Ai.Aside (Below w.heap.size w W11.drew) := ⟨B0.out.drew⟩
    go_region_held3 (fun W' => W'.cell? ⟨w.heap.size, 2, none⟩ = some (.int .i64 (cc)) ∧ W'.cell? ⟨w.heap.size, 1, none⟩ = some (.int .i64 (p)) ∧ W'.cell? ⟨w.heap.size, 3, none⟩ = some (.int .i64 (s))) (first | exact ⟨f2, f1, f3⟩ | exact ⟨(TwoAt.set T0.out 9 (by decide) _).facts.2.2.1, (TwoAt.set T0.out 9 (by decide) _).facts.2.1, (TwoAt.set T0.out 9 (by decide) _).facts.2.2.2.1⟩ | (exact ⟨(TwoAt.setD T0p.out 9 (by decide) _).facts.2.2.1, (TwoAt.setD T0p.out 9 (by decide) _).facts.2.1, (TwoAt.setD T0p.out 9 (by decide) _).facts.2.2.2.1⟩) | (go_keep; done)) (first | (go_at_call 82; go_loud (refine (l_ok _ _).mono ?_; rintro e w1 ⟨r, rfl, hr1, hr2, hb⟩; have T1 := Ai.Aside.mk (T0.out.below hb); have B1 := Ai.Aside.mk (B0.out.trans (hb.mono B0.out.size)); clear T0 B0 hb f0 f1 f2 f3 f4 f5 fz fs; have T0 := T1; have B0 := B1; clear T1 B1; obtain ⟨f0, f1, f2, f3, f4, f5, fz, fs⟩ := T0.out.facts)) | (go_at_call 83; go_loud (refine (pages12_ok _ _).mono ?_; rintro e w1 ⟨r, rfl, rfl⟩)) | (go_at_call 84; go_loud (refine (up16_ok _ _ (by omega) _).mono ?_; rintro e w1 ⟨r, rfl, rfl⟩)))
    generalize hW : World.setCell _ _ _ = W12
    obtain ⟨s12, T1⟩ : ∃ s12, Ai.Aside (TwoAt W12 w.heap.size (w.heap.size + 1 + 1) ⟨b, p, cc, s, m, x, f⟩ s12) := ⟨_, ⟨hW ▸ (T0p.out.set 9 (by decide) _)⟩⟩
    have B1 : Ai.Aside (Below w.heap.size w W12) := ⟨hW ▸ (B0p.out.setCell (p := ⟨w.heap.size + 1 + 1, 9, none⟩) HGH.out _)⟩
    (try clear T0p B0p)
    clear hW T0 B0 f0 f1 f2 f3 f4 f5 fz fs
    have T0 := T1
    have B0 := B1
    clear T1 B1
    obtain ⟨f0, f1, f2, f3, f4, f5, fz, fs⟩ := T0.out.facts
    generalize hW : World.drew _ = W13
    replace T0 : Ai.Aside (TwoAt W13 w.heap.size (w.heap.size + 1 + 1) ⟨b, p, cc, s, m, x, f⟩ _) := ⟨hW ▸ (show TwoAt W12.drew w.heap.size (w.heap.size + 1 + 1) ⟨b, p, cc, s, m, x, f⟩ _ from T0.out)⟩
    replace B0 : Ai.Aside (Below w.heap.size w W13) := ⟨hW ▸ (show Below w.heap.size w W12.drew from ⟨B0.out.os, B0.out.tape, B0.out.output, B0.out.size, B0.out.block⟩)⟩
    clear hW f0 f1 f2 f3 f4 f5 fz fs
    obtain ⟨f0, f1, f2, f3, f4, f5, fz, fs⟩ := T0.out.facts
    go_upto_region 16 with (fail)
    generalize hW : World.setCell _ _ _ = W14
    obtain ⟨s14, T1⟩ : ∃ s14, Ai.Aside (TwoAt W14 w.heap.size (w.heap.size + 1 + 1) ⟨b, p, cc, s, m, x, f⟩ s14) := ⟨_, ⟨hW ▸ (T0.out.set 10 (by decide) _)⟩⟩
    have B1 : Ai.Aside (Below w.heap.size w W14) := ⟨hW ▸ (B0.out.setCell (p := ⟨w.heap.size + 1 + 1, 10, none⟩) HGH.out _)⟩
    (try clear T0p B0p)
    clear hW T0 B0 f0 f1 f2 f3 f4 f5 fz fs
    have T0 := T1
    have B0 := B1
    clear T1 B1
    obtain ⟨f0, f1, f2, f3, f4, f5, fz, fs⟩ := T0.out.facts
    have HT := Ai.Aside.mk (there11 T0.out.res.1 T0.out.res.2)
    have HRG := Ai.Aside.mk (range11 fs)
    clear f0 f1 f2 f3 f4 f5 fz fs
    rename_i K hK
    apply wp_region_lit
    refine wpList_load_mid rfl 86 (.tmp 3) rfl (w.heap.size + 1 + 1) 0 (by kernel_rfl) (L11 s14) _ HRG.out Tryz.underlying86 rfl (by kernel_rfl) ?_
    refine wpList_store_mid rfl 86 (.tmp 2) (.tmp 143) rfl (w.heap.size + 1) 0 (L11 s14).toArray (by kernel_rfl) (by kernel_rfl) HT.out (by kernel_rfl) (all_oneCell_toArray (one11 s14)) ?_
    refine wpList_nil ?_
    refine hK _ _ (wp_ret ?_)
    refine bodyPost_ret (res_cell (p := 2) (ty := 86) rfl _ _ (w.heap.size + 1) (L11 s14) _ (by kernel_rfl) (World.rangeAt_setCells_same _ _ _ _ HT.out) Tryz.underlying86 rfl (by kernel_rfl)) (by kernel_rfl) ?_
    exact ⟨s14, (by kernel_rfl), below_setCells (by omega) _ _ B0.out⟩
end Fi
end Go.Proofs.YtjmhkcfdmcjilaaGreat
