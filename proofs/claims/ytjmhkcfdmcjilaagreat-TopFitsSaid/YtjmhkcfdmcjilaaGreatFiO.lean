/-
  Walk: size.Of of a Config in its spans. (Printed by of7.py.)
-/
import Derived.Test.YtjmhkcfdmcjilaaGreatFiM
import Derived.Deep.RegionHeld3
import Derived.Deep.DeepCutAuto
import Derived.Test.YtjmhkcfdmcjilaaGreatFiQ
set_option linter.unusedVariables false
set_option linter.unusedSimpArgs false
namespace Go.Proofs.YtjmhkcfdmcjilaaGreat
namespace Fi
open Go.RowKit Ai

def upd (s : Nat → Int) (j : Nat) (v : Int) : Nat → Int := fun i => if i = j then v else s i

/-- Two local structs: a Config, and eleven ints. -/
def SzAt (w : World) (g h : Nat) (c : Cfg) (s : Nat → Int) : Prop :=
  (g + 1 < w.heap.size ∧ g + 1 ≠ h ∧ w.heap[g + 1]? = some (.cells #[.int .i64 0, .int .i64 0, .int .i64 0, .int .i64 0, .int .i64 0, .int .i64 0, .int .i64 0, .int .i64 0, .int .i64 0, .int .i64 0, .int .i64 0] 29 (0, 0))) ∧ g < w.heap.size ∧ h < w.heap.size ∧ g ≠ h ∧
  w.heap[g]? = some (.cells #[.int .i64 c.b, .int .i64 c.p, .int .i64 c.c, .int .i64 c.s, .int .i64 c.m, .int .i64 c.x, .bool c.f] 23 (0, 0)) ∧
  w.heap[h]? = some (.cells #[.int .i64 (s 0), .int .i64 (s 1), .int .i64 (s 2), .int .i64 (s 3), .int .i64 (s 4), .int .i64 (s 5), .int .i64 (s 6), .int .i64 (s 7), .int .i64 (s 8), .int .i64 (s 9), .int .i64 (s 10)] 29 (0, 0))

theorem SzAt.below {w w' : World} {g h : Nat} {c : Cfg} {s : Nat → Int} (k : SzAt w g h c s) (hb : Below w.heap.size w w') : SzAt w' g h c s :=
  ⟨⟨Nat.lt_of_lt_of_le k.1.1 hb.size, k.1.2.1, by rw [hb.block _ k.1.1]; exact k.1.2.2⟩, Nat.lt_of_lt_of_le k.2.1 hb.size, Nat.lt_of_lt_of_le k.2.2.1 hb.size, k.2.2.2.1, by rw [hb.block _ k.2.1]; exact k.2.2.2.2.1, by rw [hb.block _ k.2.2.1]; exact k.2.2.2.2.2⟩

theorem SzAt.facts {w : World} {g h : Nat} {c : Cfg} {s : Nat → Int} (k : SzAt w g h c s) :
    w.cell? ⟨g, 0, none⟩ = some (.int .i64 c.b) ∧ w.cell? ⟨g, 1, none⟩ = some (.int .i64 c.p) ∧ w.cell? ⟨g, 2, none⟩ = some (.int .i64 c.c) ∧ w.cell? ⟨g, 3, none⟩ = some (.int .i64 c.s) ∧ w.cell? ⟨g, 4, none⟩ = some (.int .i64 c.m) ∧ w.cell? ⟨g, 5, none⟩ = some (.int .i64 c.x) ∧
    (∀ j, w.frozen? ⟨h, j, none⟩ = false) ∧ (∀ j, j < 11 → w.cell? ⟨h, j, none⟩ = some (.int .i64 (s j))) := by
  obtain ⟨_, _, _, _, h1, h2⟩ := k
  refine ⟨by rw [cell_of_row _ _ _ _ _ _ h1]; rfl, by rw [cell_of_row _ _ _ _ _ _ h1]; rfl, by rw [cell_of_row _ _ _ _ _ _ h1]; rfl, by rw [cell_of_row _ _ _ _ _ _ h1]; rfl, by rw [cell_of_row _ _ _ _ _ _ h1]; rfl, by rw [cell_of_row _ _ _ _ _ _ h1]; rfl, fun j => frozen_of_row _ _ _ _ _ h2, fun j hj => ?_⟩
  rw [cell_of_row _ _ _ _ _ _ h2]
  rcases j with _ | _ | _ | _ | _ | _ | _ | _ | _ | _ | _ | j <;> first | rfl | omega

theorem SzAt.res {w : World} {g h : Nat} {c : Cfg} {s : Nat → Int} (k : SzAt w g h c s) : (∀ j, w.frozen? ⟨g + 1, j, none⟩ = false) ∧ (∀ j, j < 11 → w.cell? ⟨g + 1, j, none⟩ = some (.int .i64 0)) := by
  obtain ⟨⟨_, _, h2⟩, _⟩ := k
  refine ⟨fun j => frozen_of_row _ _ _ _ _ h2, fun j hj => ?_⟩
  rw [cell_of_row _ _ _ _ _ _ h2]
  rcases j with _ | _ | _ | _ | _ | _ | _ | _ | _ | _ | _ | j <;> first | rfl | omega

theorem SzAt.set {w : World} {g h : Nat} {c : Cfg} {s : Nat → Int} (k : SzAt w g h c s) (j : Nat) (hj : j < 11) (v : Int) : SzAt (w.setCell ⟨h, j, none⟩ (.int .i64 v)) g h c (upd s j v) := by
  obtain ⟨h0, h1, h2, h3, h4, h5⟩ := k
  refine ⟨⟨by simpa [World.setCell] using h0.1, h0.2.1, (heap_setCell_other w ⟨h, j, none⟩ (g + 1) _ h0.2.1).trans h0.2.2⟩, by simpa [World.setCell] using h1, by simpa [World.setCell] using h2, h3, (heap_setCell_other w ⟨h, j, none⟩ g _ h3).trans h4, ?_⟩
  rw [heap_setCell_same w h j _ 29 _ h5]
  congr 2
  rcases j with _ | _ | _ | _ | _ | _ | _ | _ | _ | _ | _ | j <;> first | rfl | omega

theorem SzAt.setD {w : World} {g h : Nat} {c : Cfg} {s : Nat → Int} (k : SzAt w g h c s) (j : Nat) (hj : j < 11) (v : Int) : SzAt (w.setCell ⟨h, j, none⟩ (.int .i64 v)).drew g h c (upd s j v) := k.set j hj v


theorem len2_b (x : Int) : 1 ≤ len2 x ∧ len2 x ≤ 2 := by unfold len2; split <;> omega
theorem pagesV_b (x : Int) : 0 ≤ pagesV x ∧ pagesV x ≤ 2048 := by unfold pagesV; split <;> (try split) <;> omega

/-- What a Config comes to. -/
def runB (c : Cfg) : Int := 2 * len2 c.c + len2 (2 * (c.b * c.p) + 1)
def snapP (c : Cfg) : Int := pagesV (len2 c.m + c.m * runB c)
def opsM (c : Cfg) : Int := 4 + c.s + (if (c.c + c.p - 1) / c.p < c.p then c.p else (c.c + c.p - 1) / c.p)
def opB (c : Cfg) : Int := len2 (2 * c.c + 1) + len2 c.c + len2 (2 * (c.b * c.p) + 3)
def recP (c : Cfg) : Int := pagesV (len2 (opsM c) + opsM c * opB c)

def Of7Post (c : Cfg) (w : World) (e : Ending) (w' : World) : Prop := ∃ s : Nat → Int, e = .returned (.tuple #[.agg #[.int .i64 (s 0), .int .i64 (s 1), .int .i64 (s 2), .int .i64 (s 3), .int .i64 (s 4), .int .i64 (s 5), .int .i64 (s 6), .int .i64 (s 7), .int .i64 (s 8), .int .i64 (s 9), .int .i64 (s 10)], .int .i64 0]) ∧
  s 1 = snapP c ∧ s 2 = opsM c ∧ s 4 = recP c ∧ Below w.heap.size w w'

theorem mul_b {a b A B : Int} (ha : 0 ≤ a) (hA : a ≤ A) (hb : 0 ≤ b) (hB : b ≤ B) : 0 ≤ a * b ∧ a * b ≤ A * B :=
  ⟨Int.mul_nonneg ha hb, Int.mul_le_mul hA hB hb (by omega)⟩

set_option maxHeartbeats 4000000 in
set_option maxRecDepth 100000 in
theorem of7_ok (c : Cfg) (hc : c.Span) (w : World) : Calls Tryz.prog 7 #[c.V] w (Of7Post c w) := by
  obtain ⟨b, p, cc, s, m, x, f⟩ := c
  unfold Cfg.V
  simp only [Cfg.Span] at hc
  obtain ⟨bp, hbp⟩ : ∃ bp : Int, bp = b * p := ⟨_, rfl⟩
  have hbb : 0 ≤ bp ∧ bp ≤ 2048 := by rw [hbp]; exact mul_b (A := 64) (B := 32) (by omega) (by omega) (by omega) (by omega)
  have hw1 : IntKind.i64.wrap (b * p) = bp := by rw [← hbp, IntKind.wrap_i64]; omega
  obtain ⟨l1, hl1⟩ : ∃ l1, len2 cc = l1 := ⟨_, rfl⟩
  obtain ⟨l2, hl2⟩ : ∃ l2, len2 (2 * bp + 1) = l2 := ⟨_, rfl⟩
  obtain ⟨l3, hl3⟩ : ∃ l3, len2 m = l3 := ⟨_, rfl⟩
  obtain ⟨l4, hl4⟩ : ∃ l4, len2 (2 * cc + 1) = l4 := ⟨_, rfl⟩
  obtain ⟨l5, hl5⟩ : ∃ l5, len2 (2 * bp + 3) = l5 := ⟨_, rfl⟩
  have hb1 : 1 ≤ l1 ∧ l1 ≤ 2 := by rw [← hl1]; exact len2_b _
  have hb2 : 1 ≤ l2 ∧ l2 ≤ 2 := by rw [← hl2]; exact len2_b _
  have hb3 : 1 ≤ l3 ∧ l3 ≤ 2 := by rw [← hl3]; exact len2_b _
  have hb4 : 1 ≤ l4 ∧ l4 ≤ 2 := by rw [← hl4]; exact len2_b _
  have hb5 : 1 ≤ l5 ∧ l5 ≤ 2 := by rw [← hl5]; exact len2_b _
  obtain ⟨rb, hrb⟩ : ∃ rb, 2 * l1 + l2 = rb := ⟨_, rfl⟩
  have hb6 : 3 ≤ rb ∧ rb ≤ 6 := by omega
  obtain ⟨mr, hmr⟩ : ∃ mr, m * rb = mr := ⟨_, rfl⟩
  have hb7 : 0 ≤ mr ∧ mr ≤ 3072 := by rw [← hmr]; exact mul_b (A := 512) (B := 6) (by omega) (by omega) (by omega) (by omega)
  obtain ⟨sp, hsp⟩ : ∃ sp, pagesV (l3 + mr) = sp := ⟨_, rfl⟩
  have hb8 : 0 ≤ sp ∧ sp ≤ 2048 := by rw [← hsp]; exact pagesV_b _
  obtain ⟨u1, hu1⟩ : ∃ u1, (cc + p - 1) / p = u1 := ⟨_, rfl⟩
  have hb9 : 0 ≤ u1 ∧ u1 ≤ 128 := by
    rw [← hu1]
    refine ⟨Int.ediv_nonneg (by omega) (by omega), ?_⟩
    have : (cc + p - 1) / p < 129 := Int.ediv_lt_of_lt_mul (by omega) (by omega)
    omega
  obtain ⟨mx, hmx⟩ : ∃ mx, (if u1 < p then p else u1) = mx := ⟨_, rfl⟩
  have hb10 : 4 ≤ mx ∧ mx ≤ 128 := by rw [← hmx]; split <;> omega
  have hmx2 : max u1 p = mx := by rw [← hmx, Int.max_def]; split <;> split <;> omega
  obtain ⟨om, hom⟩ : ∃ om, 4 + s + mx = om := ⟨_, rfl⟩
  have hb11 : 8 ≤ om ∧ om ≤ 136 := by omega
  obtain ⟨ob, hob⟩ : ∃ ob, l4 + l1 + l5 = ob := ⟨_, rfl⟩
  have hb12 : 3 ≤ ob ∧ ob ≤ 6 := by omega
  obtain ⟨l6, hl6⟩ : ∃ l6, len2 om = l6 := ⟨_, rfl⟩
  have hb13 : 1 ≤ l6 ∧ l6 ≤ 2 := by rw [← hl6]; exact len2_b _
  obtain ⟨oo, hoo⟩ : ∃ oo, om * ob = oo := ⟨_, rfl⟩
  have hb14 : 0 ≤ oo ∧ oo ≤ 816 := by rw [← hoo]; exact mul_b (A := 136) (B := 6) (by omega) (by omega) (by omega) (by omega)
  obtain ⟨rp, hrp⟩ : ∃ rp, pagesV (l6 + oo) = rp := ⟨_, rfl⟩
  have hb15 : 0 ≤ rp ∧ rp ≤ 2048 := by rw [← hrp]; exact pagesV_b _
  obtain ⟨lp, hlp⟩ : ∃ lp, 2 * rp + p + sp = lp := ⟨_, rfl⟩
  have hb16 : 0 ≤ lp ∧ lp ≤ 6200 := by omega
  obtain ⟨u2, hu2⟩ : ∃ u2, (sp + lp + p - 1) / p = u2 := ⟨_, rfl⟩
  have hb17 : 0 ≤ u2 ∧ u2 ≤ 8400 := by
    rw [← hu2]
    exact ⟨Int.ediv_nonneg (by omega) (by omega), Int.le_trans (Int.ediv_le_self _ (by omega)) (by omega)⟩
  obtain ⟨u3, hu3⟩ : ∃ u3, (sp + p - 1) / p = u3 := ⟨_, rfl⟩
  have hb18 : 0 ≤ u3 ∧ u3 ≤ 2100 := by
    rw [← hu3]
    exact ⟨Int.ediv_nonneg (by omega) (by omega), Int.le_trans (Int.ediv_le_self _ (by omega)) (by omega)⟩
  have HE := Ai.Aside.mk (show sp = snapP ⟨b, p, cc, s, m, x, f⟩ ∧ om = opsM ⟨b, p, cc, s, m, x, f⟩ ∧ rp = recP ⟨b, p, cc, s, m, x, f⟩ from by
    have h1 : om = opsM ⟨b, p, cc, s, m, x, f⟩ := by simp only [opsM, hu1, hmx, hom]
    have h2 : runB ⟨b, p, cc, s, m, x, f⟩ = rb := by simp only [runB, ← hbp, hl1, hl2, hrb]
    have h3 : opB ⟨b, p, cc, s, m, x, f⟩ = ob := by simp only [opB, ← hbp, hl1, hl4, hl5, hob]
    refine ⟨?_, h1, ?_⟩
    · simp only [snapP, h2, hl3, hmr, hsp]
    · simp only [recP, ← h1, h3, hl6, hoo, hrp])
  have k1 : IntKind.i64.wrap (m * rb) = mr := by rw [hmr, IntKind.wrap_i64]; omega
  have k2 : IntKind.i64.wrap (l3 + mr) = l3 + mr := by rw [IntKind.wrap_i64]; omega
  have k3 : IntKind.i64.wrap (4 + s) = 4 + s := by rw [IntKind.wrap_i64]; omega
  have k4 : IntKind.i64.wrap (4 + s + mx) = om := by rw [hom, IntKind.wrap_i64]; omega
  have k5 : IntKind.i64.wrap (2 * cc) = 2 * cc := by rw [IntKind.wrap_i64]; omega
  have k6 : IntKind.i64.wrap (2 * cc + 1) = 2 * cc + 1 := by rw [IntKind.wrap_i64]; omega
  have k7 : IntKind.i64.wrap (l4 + l1) = l4 + l1 := by rw [IntKind.wrap_i64]; omega
  have k8 : IntKind.i64.wrap (2 * bp) = 2 * bp := by rw [IntKind.wrap_i64]; omega
  have k9 : IntKind.i64.wrap (2 * bp + 3) = 2 * bp + 3 := by rw [IntKind.wrap_i64]; omega
  have k10 : IntKind.i64.wrap (l4 + l1 + l5) = ob := by rw [hob, IntKind.wrap_i64]; omega
  have k13 : IntKind.i64.wrap om = om := by rw [IntKind.wrap_i64]; omega
  have k14 : IntKind.i64.wrap ob = ob := by rw [IntKind.wrap_i64]; omega
  have k11 : IntKind.i64.wrap (om * ob) = oo := by rw [hoo, IntKind.wrap_i64]; omega
  have k12 : IntKind.i64.wrap (l6 + oo) = l6 + oo := by rw [IntKind.wrap_i64]; omega
  clear hmr hoo hbp
  obtain ⟨W, hW⟩ : ∃ W, W = ((w.alloc (.cells #[.int .i64 b, .int .i64 p, .int .i64 cc, .int .i64 s, .int .i64 m, .int .i64 x, .bool f] 23)).alloc (.cells #[.int .i64 0, .int .i64 0, .int .i64 0, .int .i64 0, .int .i64 0, .int .i64 0, .int .i64 0, .int .i64 0, .int .i64 0, .int .i64 0, .int .i64 0] 29)).alloc (.cells #[.int .i64 rb, .int .i64 0, .int .i64 0, .int .i64 0, .int .i64 0, .int .i64 0, .int .i64 0, .int .i64 0, .int .i64 0, .int .i64 0, .int .i64 0] 29) := ⟨_, rfl⟩
  have T0 := Ai.Aside.mk (show SzAt W w.heap.size (w.heap.size + 1 + 1) ⟨b, p, cc, s, m, x, f⟩ (upd (fun _ => 0) 0 rb) from
    ⟨⟨by rw [hW]; simp, by omega, by rw [hW, Below.heap_alloc _ _ _ (by simp)]; have := heap_alloc_new (w.alloc (.cells #[.int .i64 b, .int .i64 p, .int .i64 cc, .int .i64 s, .int .i64 m, .int .i64 x, .bool f] 23)) (.cells #[.int .i64 0, .int .i64 0, .int .i64 0, .int .i64 0, .int .i64 0, .int .i64 0, .int .i64 0, .int .i64 0, .int .i64 0, .int .i64 0, .int .i64 0] 29); simpa using this⟩, by rw [hW]; simp; omega, by rw [hW]; simp, by omega, by rw [hW, Below.heap_alloc _ _ _ (by simp; omega), Below.heap_alloc _ _ _ (by simp)]; exact heap_alloc_new _ _, by rw [hW]; have := heap_alloc_new ((w.alloc (.cells #[.int .i64 b, .int .i64 p, .int .i64 cc, .int .i64 s, .int .i64 m, .int .i64 x, .bool f] 23)).alloc (.cells #[.int .i64 0, .int .i64 0, .int .i64 0, .int .i64 0, .int .i64 0, .int .i64 0, .int .i64 0, .int .i64 0, .int .i64 0, .int .i64 0, .int .i64 0] 29)) (.cells #[.int .i64 rb, .int .i64 0, .int .i64 0, .int .i64 0, .int .i64 0, .int .i64 0, .int .i64 0, .int .i64 0, .int .i64 0, .int .i64 0, .int .i64 0] 29); simpa [upd] using this⟩)
  have B0 := Ai.Aside.mk (show Below w.heap.size w W from by rw [hW]; exact (((Below.refl _ w).alloc (Nat.le_refl _) _).alloc (by simp) _).alloc (by simp; omega) _)
  have HGH := Ai.Aside.mk (show w.heap.size ≤ w.heap.size + 1 + 1 by omega)
  have HW := Ai.Aside.mk hW
  clear hW
  obtain ⟨s0, hs0⟩ : ∃ s0 : Nat → Int, s0 = upd (fun _ => 0) 0 rb := ⟨_, rfl⟩
  rw [← hs0] at T0
  have Hs0 := Ai.Aside.mk hs0
  clear hs0
  obtain ⟨f0, f1, f2, f3, f4, f5, fz, fs⟩ := T0.out.facts
  go_enter Tryz.func7, Tryz.ntmps7
  go_wp2_with (first | (go_at_call 38; go_loud (refine (within_ok _ _ _ (by omega) _).mono ?_; rintro e w1 ⟨rfl, rfl⟩)) | (go_at_call 39; go_loud (refine (length_ok _ (by omega) (by omega) _).mono ?_; rintro e w1 ⟨rfl, rfl⟩)) | (go_at_call 12; go_loud (refine (pages_ok _ _).mono ?_; rintro e w1 ⟨rfl, rfl⟩)) | (go_at_call 40; go_loud (refine (up_ok _ _ (by omega) (by omega) _).mono ?_; rintro e w1 ⟨rfl, rfl⟩)))
  rw [← HW.out]
  have e0 : some (Value.int .i64 (s0 0)) = some (Value.int .i64 (rb)) := by rw [Hs0.out]; rfl
  have g0 := (fs 0 (by decide)).trans e0
  have T0p := T0
  have B0p := B0
  replace T0 : Ai.Aside (SzAt W.drew w.heap.size (w.heap.size + 1 + 1) ⟨b, p, cc, s, m, x, f⟩ _) := ⟨T0.out⟩
  replace B0 : Ai.Aside (Below w.heap.size w W.drew) := ⟨B0.out.drew⟩
  go_region_held3 (fun W' => W'.cell? ⟨w.heap.size, 4, none⟩ = some (.int .i64 (m)) ∧ W'.cell? ⟨w.heap.size + 1 + 1, 0, none⟩ = some (.int .i64 (rb))) (first | exact ⟨f4, g0⟩ | exact ⟨(SzAt.set T0.out 1 (by decide) _).facts.2.2.2.2.1, (((SzAt.set T0.out 1 (by decide) _).facts.2.2.2.2.2.2.2 0 (by decide)).trans (by rw [upd, if_neg (by decide)]; exact e0))⟩ | exact ⟨(SzAt.setD T0p.out 1 (by decide) _).facts.2.2.2.2.1, (((SzAt.setD T0p.out 1 (by decide) _).facts.2.2.2.2.2.2.2 0 (by decide)).trans (by rw [upd, if_neg (by decide)]; exact e0))⟩ | (go_keep; done)) (first | (go_at_call 38; go_loud (refine (within_ok _ _ _ (by omega) _).mono ?_; rintro e w1 ⟨rfl, rfl⟩)) | (go_at_call 39; go_loud (refine (length_ok _ (by omega) (by omega) _).mono ?_; rintro e w1 ⟨rfl, rfl⟩)) | (go_at_call 12; go_loud (refine (pages_ok _ _).mono ?_; rintro e w1 ⟨rfl, rfl⟩)) | (go_at_call 40; go_loud (refine (up_ok _ _ (by omega) (by omega) _).mono ?_; rintro e w1 ⟨rfl, rfl⟩)))
  clear g0 e0
  generalize hW : World.setCell _ _ _ = W1
  obtain ⟨s1, hs1, T1⟩ : ∃ s1, s1 = (upd s0 1 (sp)) ∧ Ai.Aside (SzAt W1 w.heap.size (w.heap.size + 1 + 1) ⟨b, p, cc, s, m, x, f⟩ s1) := ⟨_, rfl, ⟨hW ▸ ((T0p.out).set 1 (by decide) (sp))⟩⟩
  have Hs1 := Ai.Aside.mk hs1
  have B1 : Ai.Aside (Below w.heap.size w W1) := ⟨hW ▸ (B0p.out.setCell (p := ⟨w.heap.size + 1 + 1, 1, none⟩) HGH.out _)⟩
  (try clear T0p B0p)
  clear hW hs1 T0 B0 f0 f1 f2 f3 f4 f5 fz fs
  have T0 := T1
  have B0 := B1
  clear T1 B1
  obtain ⟨f0, f1, f2, f3, f4, f5, fz, fs⟩ := T0.out.facts
  generalize hW : World.drew _ = W1d
  replace T0 : Ai.Aside (SzAt W1d w.heap.size (w.heap.size + 1 + 1) ⟨b, p, cc, s, m, x, f⟩ s1) := ⟨hW ▸ (show SzAt W1.drew w.heap.size (w.heap.size + 1 + 1) ⟨b, p, cc, s, m, x, f⟩ _ from T0.out)⟩
  replace B0 : Ai.Aside (Below w.heap.size w W1d) := ⟨hW ▸ (show Below w.heap.size w W1.drew from ⟨B0.out.os, B0.out.tape, B0.out.output, B0.out.size, B0.out.block⟩)⟩
  clear hW f0 f1 f2 f3 f4 f5 fz fs
  obtain ⟨f0, f1, f2, f3, f4, f5, fz, fs⟩ := T0.out.facts
  go_wp2_with fail
  have T0p := T0
  have B0p := B0
  replace T0 : Ai.Aside (SzAt W1d.drew w.heap.size (w.heap.size + 1 + 1) ⟨b, p, cc, s, m, x, f⟩ _) := ⟨T0.out⟩
  replace B0 : Ai.Aside (Below w.heap.size w W1d.drew) := ⟨B0.out.drew⟩
  go_region_held3 (fun W' => W'.cell? ⟨w.heap.size, 3, none⟩ = some (.int .i64 (s)) ∧ W'.cell? ⟨w.heap.size, 2, none⟩ = some (.int .i64 (cc)) ∧ W'.cell? ⟨w.heap.size, 1, none⟩ = some (.int .i64 (p))) (first | exact ⟨f3, f2, f1⟩ | exact ⟨(SzAt.set T0.out 2 (by decide) _).facts.2.2.2.1, (SzAt.set T0.out 2 (by decide) _).facts.2.2.1, (SzAt.set T0.out 2 (by decide) _).facts.2.1⟩ | exact ⟨(SzAt.setD T0p.out 2 (by decide) _).facts.2.2.2.1, (SzAt.setD T0p.out 2 (by decide) _).facts.2.2.1, (SzAt.setD T0p.out 2 (by decide) _).facts.2.1⟩ | (go_keep; done)) (first | (go_at_call 38; go_loud (refine (within_ok _ _ _ (by omega) _).mono ?_; rintro e w1 ⟨rfl, rfl⟩)) | (go_at_call 39; go_loud (refine (length_ok _ (by omega) (by omega) _).mono ?_; rintro e w1 ⟨rfl, rfl⟩)) | (go_at_call 12; go_loud (refine (pages_ok _ _).mono ?_; rintro e w1 ⟨rfl, rfl⟩)) | (go_at_call 40; go_loud (refine (up_ok _ _ (by omega) (by omega) _).mono ?_; rintro e w1 ⟨rfl, rfl⟩)))
  generalize hW : World.setCell _ _ _ = W2
  obtain ⟨s2, hs2, T1⟩ : ∃ s2, s2 = (upd s1 2 (om)) ∧ Ai.Aside (SzAt W2 w.heap.size (w.heap.size + 1 + 1) ⟨b, p, cc, s, m, x, f⟩ s2) := ⟨_, rfl, ⟨hW ▸ ((T0p.out).set 2 (by decide) (om))⟩⟩
  have Hs2 := Ai.Aside.mk hs2
  have B1 : Ai.Aside (Below w.heap.size w W2) := ⟨hW ▸ (B0p.out.setCell (p := ⟨w.heap.size + 1 + 1, 2, none⟩) HGH.out _)⟩
  (try clear T0p B0p)
  clear hW hs2 T0 B0 f0 f1 f2 f3 f4 f5 fz fs
  have T0 := T1
  have B0 := B1
  clear T1 B1
  obtain ⟨f0, f1, f2, f3, f4, f5, fz, fs⟩ := T0.out.facts
  generalize hW : World.drew _ = W2d
  replace T0 : Ai.Aside (SzAt W2d w.heap.size (w.heap.size + 1 + 1) ⟨b, p, cc, s, m, x, f⟩ s2) := ⟨hW ▸ (show SzAt W2.drew w.heap.size (w.heap.size + 1 + 1) ⟨b, p, cc, s, m, x, f⟩ _ from T0.out)⟩
  replace B0 : Ai.Aside (Below w.heap.size w W2d) := ⟨hW ▸ (show Below w.heap.size w W2.drew from ⟨B0.out.os, B0.out.tape, B0.out.output, B0.out.size, B0.out.block⟩)⟩
  clear hW f0 f1 f2 f3 f4 f5 fz fs
  obtain ⟨f0, f1, f2, f3, f4, f5, fz, fs⟩ := T0.out.facts
  go_wp2_with fail
  have T0p := T0
  have B0p := B0
  replace T0 : Ai.Aside (SzAt W2d.drew w.heap.size (w.heap.size + 1 + 1) ⟨b, p, cc, s, m, x, f⟩ _) := ⟨T0.out⟩
  replace B0 : Ai.Aside (Below w.heap.size w W2d.drew) := ⟨B0.out.drew⟩
  go_region_held3 (fun W' => W'.cell? ⟨w.heap.size, 2, none⟩ = some (.int .i64 (cc))) (first | exact f2 | exact (SzAt.set T0.out 3 (by decide) _).facts.2.2.1 | exact (SzAt.setD T0p.out 3 (by decide) _).facts.2.2.1 | (go_keep; done)) (first | (go_at_call 38; go_loud (refine (within_ok _ _ _ (by omega) _).mono ?_; rintro e w1 ⟨rfl, rfl⟩)) | (go_at_call 39; go_loud (refine (length_ok _ (by omega) (by omega) _).mono ?_; rintro e w1 ⟨rfl, rfl⟩)) | (go_at_call 12; go_loud (refine (pages_ok _ _).mono ?_; rintro e w1 ⟨rfl, rfl⟩)) | (go_at_call 40; go_loud (refine (up_ok _ _ (by omega) (by omega) _).mono ?_; rintro e w1 ⟨rfl, rfl⟩)))
  generalize hW : World.setCell _ _ _ = W3
  obtain ⟨s3, hs3, T1⟩ : ∃ s3, s3 = (upd s2 3 (ob)) ∧ Ai.Aside (SzAt W3 w.heap.size (w.heap.size + 1 + 1) ⟨b, p, cc, s, m, x, f⟩ s3) := ⟨_, rfl, ⟨hW ▸ ((T0p.out).set 3 (by decide) (ob))⟩⟩
  have Hs3 := Ai.Aside.mk hs3
  have B1 : Ai.Aside (Below w.heap.size w W3) := ⟨hW ▸ (B0p.out.setCell (p := ⟨w.heap.size + 1 + 1, 3, none⟩) HGH.out _)⟩
  (try clear T0p B0p)
  clear hW hs3 T0 B0 f0 f1 f2 f3 f4 f5 fz fs
  have T0 := T1
  have B0 := B1
  clear T1 B1
  obtain ⟨f0, f1, f2, f3, f4, f5, fz, fs⟩ := T0.out.facts
  generalize hW : World.drew _ = W3d
  replace T0 : Ai.Aside (SzAt W3d w.heap.size (w.heap.size + 1 + 1) ⟨b, p, cc, s, m, x, f⟩ s3) := ⟨hW ▸ (show SzAt W3.drew w.heap.size (w.heap.size + 1 + 1) ⟨b, p, cc, s, m, x, f⟩ _ from T0.out)⟩
  replace B0 : Ai.Aside (Below w.heap.size w W3d) := ⟨hW ▸ (show Below w.heap.size w W3.drew from ⟨B0.out.os, B0.out.tape, B0.out.output, B0.out.size, B0.out.block⟩)⟩
  clear hW f0 f1 f2 f3 f4 f5 fz fs
  obtain ⟨f0, f1, f2, f3, f4, f5, fz, fs⟩ := T0.out.facts
  go_wp2_with fail
  have e2 : some (Value.int .i64 (s3 2)) = some (Value.int .i64 (om)) := by rw [Hs3.out, Hs2.out, Hs1.out, Hs0.out]; rfl
  have g2 := (fs 2 (by decide)).trans e2
  have e3 : some (Value.int .i64 (s3 3)) = some (Value.int .i64 (ob)) := by rw [Hs3.out, Hs2.out, Hs1.out, Hs0.out]; rfl
  have g3 := (fs 3 (by decide)).trans e3
  have T0p := T0
  have B0p := B0
  replace T0 : Ai.Aside (SzAt W3d.drew w.heap.size (w.heap.size + 1 + 1) ⟨b, p, cc, s, m, x, f⟩ _) := ⟨T0.out⟩
  replace B0 : Ai.Aside (Below w.heap.size w W3d.drew) := ⟨B0.out.drew⟩
  go_region_held3 (fun W' => W'.cell? ⟨w.heap.size + 1 + 1, 2, none⟩ = some (.int .i64 (om)) ∧ W'.cell? ⟨w.heap.size + 1 + 1, 3, none⟩ = some (.int .i64 (ob))) (first | exact ⟨g2, g3⟩ | exact ⟨(((SzAt.set T0.out 4 (by decide) _).facts.2.2.2.2.2.2.2 2 (by decide)).trans (by rw [upd, if_neg (by decide)]; exact e2)), (((SzAt.set T0.out 4 (by decide) _).facts.2.2.2.2.2.2.2 3 (by decide)).trans (by rw [upd, if_neg (by decide)]; exact e3))⟩ | exact ⟨(((SzAt.setD T0p.out 4 (by decide) _).facts.2.2.2.2.2.2.2 2 (by decide)).trans (by rw [upd, if_neg (by decide)]; exact e2)), (((SzAt.setD T0p.out 4 (by decide) _).facts.2.2.2.2.2.2.2 3 (by decide)).trans (by rw [upd, if_neg (by decide)]; exact e3))⟩ | (go_keep; done)) (first | (go_at_call 38; go_loud (refine (within_ok _ _ _ (by omega) _).mono ?_; rintro e w1 ⟨rfl, rfl⟩)) | (go_at_call 39; go_loud (refine (length_ok _ (by omega) (by omega) _).mono ?_; rintro e w1 ⟨rfl, rfl⟩)) | (go_at_call 12; go_loud (refine (pages_ok _ _).mono ?_; rintro e w1 ⟨rfl, rfl⟩)) | (go_at_call 40; go_loud (refine (up_ok _ _ (by omega) (by omega) _).mono ?_; rintro e w1 ⟨rfl, rfl⟩)))
  clear g2 e2 g3 e3
  generalize hW : World.setCell _ _ _ = W4
  obtain ⟨s4, hs4, T1⟩ : ∃ s4, s4 = (upd s3 4 (rp)) ∧ Ai.Aside (SzAt W4 w.heap.size (w.heap.size + 1 + 1) ⟨b, p, cc, s, m, x, f⟩ s4) := ⟨_, rfl, ⟨hW ▸ ((T0p.out).set 4 (by decide) (rp))⟩⟩
  have Hs4 := Ai.Aside.mk hs4
  have B1 : Ai.Aside (Below w.heap.size w W4) := ⟨hW ▸ (B0p.out.setCell (p := ⟨w.heap.size + 1 + 1, 4, none⟩) HGH.out _)⟩
  (try clear T0p B0p)
  clear hW hs4 T0 B0 f0 f1 f2 f3 f4 f5 fz fs
  have T0 := T1
  have B0 := B1
  clear T1 B1
  obtain ⟨f0, f1, f2, f3, f4, f5, fz, fs⟩ := T0.out.facts
  generalize hW : World.drew _ = W4d
  replace T0 : Ai.Aside (SzAt W4d w.heap.size (w.heap.size + 1 + 1) ⟨b, p, cc, s, m, x, f⟩ s4) := ⟨hW ▸ (show SzAt W4.drew w.heap.size (w.heap.size + 1 + 1) ⟨b, p, cc, s, m, x, f⟩ _ from T0.out)⟩
  replace B0 : Ai.Aside (Below w.heap.size w W4d) := ⟨hW ▸ (show Below w.heap.size w W4.drew from ⟨B0.out.os, B0.out.tape, B0.out.output, B0.out.size, B0.out.block⟩)⟩
  clear hW f0 f1 f2 f3 f4 f5 fz fs
  obtain ⟨f0, f1, f2, f3, f4, f5, fz, fs⟩ := T0.out.facts
  have e1 : some (Value.int .i64 (s4 1)) = some (Value.int .i64 (sp)) := by rw [Hs4.out, Hs3.out, Hs2.out, Hs1.out, Hs0.out]; rfl
  have g1 := (fs 1 (by decide)).trans e1
  have e4 : some (Value.int .i64 (s4 4)) = some (Value.int .i64 (rp)) := by rw [Hs4.out, Hs3.out, Hs2.out, Hs1.out, Hs0.out]; rfl
  have g4 := (fs 4 (by decide)).trans e4
  go_wp2_with (first | (go_at_call 38; go_loud (refine (within_ok _ _ _ (by omega) _).mono ?_; rintro e w1 ⟨rfl, rfl⟩)) | (go_at_call 39; go_loud (refine (length_ok _ (by omega) (by omega) _).mono ?_; rintro e w1 ⟨rfl, rfl⟩)) | (go_at_call 12; go_loud (refine (pages_ok _ _).mono ?_; rintro e w1 ⟨rfl, rfl⟩)) | (go_at_call 40; go_loud (refine (up_ok _ _ (by omega) (by omega) _).mono ?_; rintro e w1 ⟨rfl, rfl⟩)))
  clear g1 e1 g4 e4
  generalize hW : World.setCell _ _ _ = W5
  obtain ⟨s5, hs5, T1⟩ : ∃ s5, s5 = (upd (upd s4 5 (lp)) 6 (u2)) ∧ Ai.Aside (SzAt W5 w.heap.size (w.heap.size + 1 + 1) ⟨b, p, cc, s, m, x, f⟩ s5) := ⟨_, rfl, ⟨hW ▸ ((((T0.out).set 5 (by decide) (lp))).set 6 (by decide) (u2))⟩⟩
  have Hs5 := Ai.Aside.mk hs5
  have B1 : Ai.Aside (Below w.heap.size w W5) := ⟨hW ▸ ((B0.out.setCell (p := ⟨w.heap.size + 1 + 1, 5, none⟩) HGH.out _).setCell (p := ⟨w.heap.size + 1 + 1, 6, none⟩) HGH.out _)⟩
  (try clear T0p B0p)
  clear hW hs5 T0 B0 f0 f1 f2 f3 f4 f5 fz fs
  have T0 := T1
  have B0 := B1
  clear T1 B1
  obtain ⟨f0, f1, f2, f3, f4, f5, fz, fs⟩ := T0.out.facts
  have e6 : some (Value.int .i64 (s5 6)) = some (Value.int .i64 (u2)) := by rw [Hs5.out, Hs4.out, Hs3.out, Hs2.out, Hs1.out, Hs0.out]; rfl
  have g6 := (fs 6 (by decide)).trans e6
  have e1 : some (Value.int .i64 (s5 1)) = some (Value.int .i64 (sp)) := by rw [Hs5.out, Hs4.out, Hs3.out, Hs2.out, Hs1.out, Hs0.out]; rfl
  have g1 := (fs 1 (by decide)).trans e1
  have T0p := T0
  have B0p := B0
  replace T0 : Ai.Aside (SzAt W5.drew w.heap.size (w.heap.size + 1 + 1) ⟨b, p, cc, s, m, x, f⟩ _) := ⟨T0.out⟩
  replace B0 : Ai.Aside (Below w.heap.size w W5.drew) := ⟨B0.out.drew⟩
  go_region_held3 (fun W' => W'.cell? ⟨w.heap.size + 1 + 1, 6, none⟩ = some (.int .i64 (u2)) ∧ W'.cell? ⟨w.heap.size + 1 + 1, 1, none⟩ = some (.int .i64 (sp)) ∧ W'.cell? ⟨w.heap.size, 1, none⟩ = some (.int .i64 (p))) (first | exact ⟨g6, g1, f1⟩ | exact ⟨(((SzAt.set T0.out 7 (by decide) _).facts.2.2.2.2.2.2.2 6 (by decide)).trans (by rw [upd, if_neg (by decide)]; exact e6)), (((SzAt.set T0.out 7 (by decide) _).facts.2.2.2.2.2.2.2 1 (by decide)).trans (by rw [upd, if_neg (by decide)]; exact e1)), (SzAt.set T0.out 7 (by decide) _).facts.2.1⟩ | exact ⟨(((SzAt.setD T0p.out 7 (by decide) _).facts.2.2.2.2.2.2.2 6 (by decide)).trans (by rw [upd, if_neg (by decide)]; exact e6)), (((SzAt.setD T0p.out 7 (by decide) _).facts.2.2.2.2.2.2.2 1 (by decide)).trans (by rw [upd, if_neg (by decide)]; exact e1)), (SzAt.setD T0p.out 7 (by decide) _).facts.2.1⟩ | (go_keep; done)) (first | (go_at_call 38; go_loud (refine (within_ok _ _ _ (by omega) _).mono ?_; rintro e w1 ⟨rfl, rfl⟩)) | (go_at_call 39; go_loud (refine (length_ok _ (by omega) (by omega) _).mono ?_; rintro e w1 ⟨rfl, rfl⟩)) | (go_at_call 12; go_loud (refine (pages_ok _ _).mono ?_; rintro e w1 ⟨rfl, rfl⟩)) | (go_at_call 40; go_loud (refine (up_ok _ _ (by omega) (by omega) _).mono ?_; rintro e w1 ⟨rfl, rfl⟩)))
  clear g6 e6 g1 e1
  generalize hW : World.setCell _ _ _ = W6
  obtain ⟨s6, hs6, T1⟩ : ∃ s6, s6 = (upd s5 7 (_)) ∧ Ai.Aside (SzAt W6 w.heap.size (w.heap.size + 1 + 1) ⟨b, p, cc, s, m, x, f⟩ s6) := ⟨_, rfl, ⟨hW ▸ ((T0p.out).set 7 (by decide) (_))⟩⟩
  have Hs6 := Ai.Aside.mk hs6
  have B1 : Ai.Aside (Below w.heap.size w W6) := ⟨hW ▸ (B0p.out.setCell (p := ⟨w.heap.size + 1 + 1, 7, none⟩) HGH.out _)⟩
  (try clear T0p B0p)
  clear hW hs6 T0 B0 f0 f1 f2 f3 f4 f5 fz fs
  have T0 := T1
  have B0 := B1
  clear T1 B1
  obtain ⟨f0, f1, f2, f3, f4, f5, fz, fs⟩ := T0.out.facts
  generalize hW : World.drew _ = W6d
  replace T0 : Ai.Aside (SzAt W6d w.heap.size (w.heap.size + 1 + 1) ⟨b, p, cc, s, m, x, f⟩ s6) := ⟨hW ▸ (show SzAt W6.drew w.heap.size (w.heap.size + 1 + 1) ⟨b, p, cc, s, m, x, f⟩ _ from T0.out)⟩
  replace B0 : Ai.Aside (Below w.heap.size w W6d) := ⟨hW ▸ (show Below w.heap.size w W6.drew from ⟨B0.out.os, B0.out.tape, B0.out.output, B0.out.size, B0.out.block⟩)⟩
  clear hW f0 f1 f2 f3 f4 f5 fz fs
  obtain ⟨f0, f1, f2, f3, f4, f5, fz, fs⟩ := T0.out.facts
  go_wp2_with (first | (go_at_call 38; go_loud (refine (within_ok _ _ _ (by omega) _).mono ?_; rintro e w1 ⟨rfl, rfl⟩)) | (go_at_call 39; go_loud (refine (length_ok _ (by omega) (by omega) _).mono ?_; rintro e w1 ⟨rfl, rfl⟩)) | (go_at_call 12; go_loud (refine (pages_ok _ _).mono ?_; rintro e w1 ⟨rfl, rfl⟩)) | (go_at_call 40; go_loud (refine (up_ok _ _ (by omega) (by omega) _).mono ?_; rintro e w1 ⟨rfl, rfl⟩)))
  generalize hW : World.setCell _ _ _ = W7
  obtain ⟨s7, hs7, T1⟩ : ∃ s7, s7 = (upd s6 8 (_)) ∧ Ai.Aside (SzAt W7 w.heap.size (w.heap.size + 1 + 1) ⟨b, p, cc, s, m, x, f⟩ s7) := ⟨_, rfl, ⟨hW ▸ ((T0.out).set 8 (by decide) (_))⟩⟩
  have Hs7 := Ai.Aside.mk hs7
  have B1 : Ai.Aside (Below w.heap.size w W7) := ⟨hW ▸ (B0.out.setCell (p := ⟨w.heap.size + 1 + 1, 8, none⟩) HGH.out _)⟩
  (try clear T0p B0p)
  clear hW hs7 T0 B0 f0 f1 f2 f3 f4 f5 fz fs
  have T0 := T1
  have B0 := B1
  clear T1 B1
  obtain ⟨f0, f1, f2, f3, f4, f5, fz, fs⟩ := T0.out.facts
  have T0p := T0
  have B0p := B0
  replace T0 : Ai.Aside (SzAt W7.drew w.heap.size (w.heap.size + 1 + 1) ⟨b, p, cc, s, m, x, f⟩ _) := ⟨T0.out⟩
  replace B0 : Ai.Aside (Below w.heap.size w W7.drew) := ⟨B0.out.drew⟩
  go_region_held3 (fun W' => W'.cell? ⟨w.heap.size, 2, none⟩ = some (.int .i64 (cc)) ∧ W'.cell? ⟨w.heap.size, 1, none⟩ = some (.int .i64 (p)) ∧ W'.cell? ⟨w.heap.size, 3, none⟩ = some (.int .i64 (s))) (first | exact ⟨f2, f1, f3⟩ | exact ⟨(SzAt.set T0.out 9 (by decide) _).facts.2.2.1, (SzAt.set T0.out 9 (by decide) _).facts.2.1, (SzAt.set T0.out 9 (by decide) _).facts.2.2.2.1⟩ | exact ⟨(SzAt.setD T0p.out 9 (by decide) _).facts.2.2.1, (SzAt.setD T0p.out 9 (by decide) _).facts.2.1, (SzAt.setD T0p.out 9 (by decide) _).facts.2.2.2.1⟩ | (go_keep; done)) (first | (go_at_call 38; go_loud (refine (within_ok _ _ _ (by omega) _).mono ?_; rintro e w1 ⟨rfl, rfl⟩)) | (go_at_call 39; go_loud (refine (length_ok _ (by omega) (by omega) _).mono ?_; rintro e w1 ⟨rfl, rfl⟩)) | (go_at_call 12; go_loud (refine (pages_ok _ _).mono ?_; rintro e w1 ⟨rfl, rfl⟩)) | (go_at_call 40; go_loud (refine (up_ok _ _ (by omega) (by omega) _).mono ?_; rintro e w1 ⟨rfl, rfl⟩)))
  generalize hW : World.setCell _ _ _ = W8
  obtain ⟨s8, hs8, T1⟩ : ∃ s8, s8 = (upd s7 9 (_)) ∧ Ai.Aside (SzAt W8 w.heap.size (w.heap.size + 1 + 1) ⟨b, p, cc, s, m, x, f⟩ s8) := ⟨_, rfl, ⟨hW ▸ ((T0p.out).set 9 (by decide) (_))⟩⟩
  have Hs8 := Ai.Aside.mk hs8
  have B1 : Ai.Aside (Below w.heap.size w W8) := ⟨hW ▸ (B0p.out.setCell (p := ⟨w.heap.size + 1 + 1, 9, none⟩) HGH.out _)⟩
  (try clear T0p B0p)
  clear hW hs8 T0 B0 f0 f1 f2 f3 f4 f5 fz fs
  have T0 := T1
  have B0 := B1
  clear T1 B1
  obtain ⟨f0, f1, f2, f3, f4, f5, fz, fs⟩ := T0.out.facts
  generalize hW : World.drew _ = W8d
  replace T0 : Ai.Aside (SzAt W8d w.heap.size (w.heap.size + 1 + 1) ⟨b, p, cc, s, m, x, f⟩ s8) := ⟨hW ▸ (show SzAt W8.drew w.heap.size (w.heap.size + 1 + 1) ⟨b, p, cc, s, m, x, f⟩ _ from T0.out)⟩
  replace B0 : Ai.Aside (Below w.heap.size w W8d) := ⟨hW ▸ (show Below w.heap.size w W8.drew from ⟨B0.out.os, B0.out.tape, B0.out.output, B0.out.size, B0.out.block⟩)⟩
  clear hW f0 f1 f2 f3 f4 f5 fz fs
  obtain ⟨f0, f1, f2, f3, f4, f5, fz, fs⟩ := T0.out.facts
  go_upto_region 16 with (fail)
  generalize hW : World.setCell _ _ _ = W9
  obtain ⟨s9, hs9, T1⟩ : ∃ s9, s9 = (upd s8 10 (_)) ∧ Ai.Aside (SzAt W9 w.heap.size (w.heap.size + 1 + 1) ⟨b, p, cc, s, m, x, f⟩ s9) := ⟨_, rfl, ⟨hW ▸ ((T0.out).set 10 (by decide) (_))⟩⟩
  have Hs9 := Ai.Aside.mk hs9
  have B1 : Ai.Aside (Below w.heap.size w W9) := ⟨hW ▸ (B0.out.setCell (p := ⟨w.heap.size + 1 + 1, 10, none⟩) HGH.out _)⟩
  (try clear T0p B0p)
  clear hW hs9 T0 B0 f0 f1 f2 f3 f4 f5 fz fs
  have T0 := T1
  have B0 := B1
  clear T1 B1
  obtain ⟨f0, f1, f2, f3, f4, f5, fz, fs⟩ := T0.out.facts
  have HV := Ai.Aside.mk (show s9 1 = sp ∧ s9 2 = om ∧ s9 4 = rp from by rw [Hs9.out, Hs8.out, Hs7.out, Hs6.out, Hs5.out, Hs4.out, Hs3.out, Hs2.out, Hs1.out, Hs0.out]; exact ⟨rfl, rfl, rfl⟩)
  have HT := Ai.Aside.mk (there11 T0.out.res.1 T0.out.res.2)
  have HRG := Ai.Aside.mk (range11 fs)
  clear f0 f1 f2 f3 f4 f5 fz fs
  rename_i K hK
  apply wp_region_lit
  refine wpList_load_mid rfl 29 (.tmp 5) rfl (w.heap.size + 1 + 1) 0 (by kernel_rfl) (L11 s9) _ HRG.out Tryz.underlying29 rfl (by kernel_rfl) ?_
  refine wpList_store_mid rfl 29 (.tmp 2) (.tmp 171) rfl (w.heap.size + 1) 0 (L11 s9).toArray (by kernel_rfl) (by kernel_rfl) HT.out (by kernel_rfl) (all_oneCell_toArray (one11 s9)) ?_
  refine wpList_plain rfl (fun K1 hK1 => BigFrame.wp_assign _ rfl (hK1 _ _ (wpList_nil ?_)))
  refine hK _ _ (wp_ret ?_)
  refine bodyPost_ret (res_cell_tmp (p := 2) (q := 3) (ty := 29) rfl _ _ (w.heap.size + 1) (L11 s9) _ (by kernel_rfl) (World.rangeAt_setCells_same _ _ _ _ HT.out) Tryz.underlying29 rfl (by kernel_rfl)) (by kernel_rfl) ?_
  exact ⟨s9, (by kernel_rfl), HV.out.1.trans HE.out.1, HV.out.2.1.trans HE.out.2.1, HV.out.2.2.trans HE.out.2.2, below_setCells (by omega) _ _ B0.out⟩
end Fi
end Go.Proofs.YtjmhkcfdmcjilaaGreat
