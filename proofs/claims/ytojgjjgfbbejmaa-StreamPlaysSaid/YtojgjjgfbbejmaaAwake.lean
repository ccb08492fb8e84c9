/- What awake comes to: true, and nothing that was there has changed. -/
import Derived.Test.YtojgjjgfbbejmaaExp
namespace Go.Proofs.Ytojgjjgfbbejmaa
open Go.RowKit
set_option linter.unusedVariables false
set_option linter.unusedSimpArgs false

theorem bel_drewN {B : Nat} {w W : World} (h : Below B w W) (n : Nat) : Below B w (W.drewN n) := ⟨h.os, h.tape, h.output, h.size, h.block⟩

theorem fl1 : feedL [(-1, 0, 0), (-1, 0, 0)] 0 0 4 = [(4, 1, 1), (-1, 0, 0)] := by decide
theorem fl2 : feedL [(4, 1, 1), (-1, 0, 0)] 1 100 1 = [(4, 1, 1), (101, 2, 1)] := by decide
theorem fl3 : feedL [(4, 1, 1), (101, 2, 1)] 2 4 2 = [(6, 3, 2), (101, 2, 1)] := by decide
theorem fl4 : feedL [(6, 3, 2), (101, 2, 1)] 3 101 1 = [(6, 3, 2), (102, 4, 2)] := by decide
theorem fa1 : feedAt [(-1, 0, 0), (-1, 0, 0)] 0 = 0 := by decide
theorem fa2 : feedAt [(4, 1, 1), (-1, 0, 0)] 100 = 1 := by decide
theorem fa3 : feedAt [(4, 1, 1), (101, 2, 1)] 4 = 0 := by decide
theorem fa4 : feedAt [(6, 3, 2), (101, 2, 1)] 101 = 1 := by decide

/-- A feed of two streams, the numbers written out. -/
theorem feed_two (g B : Nat) (l l' : List One) (now now' lba n : Int) (k : Nat) (w w0 : World) (hd : IsDet w g B l now) (hB : Below w0.heap.size w0 w) (hg : w0.heap.size ≤ g ∧ w0.heap.size ≤ B ∧ g ≠ B) (hl : l.length = 2) (hnow : 0 ≤ now ∧ now ≤ 100)
    (hlong : ∀ i, i < l.length → 0 ≤ (l.getD i z3).2.2 ∧ (l.getD i z3).2.2 ≤ 100000) (h : Good lba n) (hl' : feedL l now lba n = l') (hk : feedAt l lba = k) (hn : now' = now + 1) :
    Calls Try.prog 9 #[.pointer (some ⟨g, 0, none⟩), .int .i64 lba, .int .i64 n] w fun e w' => e = .returned (.tuple #[.int .i64 k, .int .i64 0]) ∧ IsDet w' g B l' now' ∧ Below w0.heap.size w0 w' := by
  refine (feed_ok g B l now lba n w hd hg.2.2 (by omega) (by omega) hlong h).mono ?_
  rintro e w' ⟨rfl, hd', hF⟩
  subst hl' hk hn
  exact ⟨rfl, hd', hB.trans ⟨hF.os, hF.tape, hF.output, hF.size, fun i hi => hF.block i (Nat.lt_of_lt_of_le hi hB.size) (by omega)⟩⟩

set_option maxHeartbeats 400000 in
set_option maxRecDepth 100000 in
theorem awake_ok (w : World) : Calls Try.prog 7 #[] w fun e w' => e = .returned (.bool true) ∧ Below w.heap.size w w' := by
  go_enter Try.func7, Try.ntmps7
  go_wp2_with fail
  refine (new_ok 2 _ (by omega) (by omega)).mono ?_
  rintro e w1 ⟨rfl, hd, hb⟩
  have hge : w.heap.size ≤ w.heap.size + 1 ∧ w.heap.size ≤ w.heap.size ∧ w.heap.size + 1 ≠ w.heap.size := ⟨by omega, Nat.le_refl _, by omega⟩
  generalize w.heap.size + 1 = g at *
  obtain ⟨B, hBe⟩ : ∃ B, w.heap.size = B := ⟨_, rfl⟩
  have HBE := Lib.hid hBe
  clear hBe
  have HG := Aside.mk hge
  clear hge
  have HD := Aside.mk hd
  have HB := Aside.mk hb
  clear hd hb
  go_wp2_with fail
  refine (feed_two g _ _ _ _ _ 0 4 _ _ w HD.out HB.out HG.out rfl (by omega) (by decide) (by unfold Good; omega) fl1 fa1 rfl).mono ?_
  clear HD HB
  rintro e w2 ⟨rfl, hd, hb⟩
  have HD := Aside.mk hd
  have HB := Aside.mk hb
  clear hd hb
  go_wp2_with fail
  refine (feed_two g _ _ _ _ _ 100 1 _ _ w HD.out HB.out HG.out rfl (by omega) (by decide) (by unfold Good; omega) fl2 fa2 rfl).mono ?_
  clear HD HB
  rintro e w3 ⟨rfl, hd, hb⟩
  have HD := Aside.mk hd
  have HB := Aside.mk hb
  clear hd hb
  go_wp2_with fail
  refine (feed_two g _ _ _ _ _ 4 2 _ _ w HD.out HB.out HG.out rfl (by omega) (by decide) (by unfold Good; omega) fl3 fa3 rfl).mono ?_
  clear HD HB
  rintro e w4 ⟨rfl, hd, hb⟩
  have HD := Aside.mk hd
  have HB := Aside.mk hb
  clear hd hb
  go_wp2_with fail
  refine (feed_two g _ _ _ _ _ 101 1 _ _ w HD.out HB.out HG.out rfl (by omega) (by decide) (by unfold Good; omega) fl4 fa4 rfl).mono ?_
  clear HD HB
  rintro e w5 ⟨rfl, hd, hb⟩
  have HD := Aside.mk hd
  have HB := Aside.mk hb
  clear hd hb
  go_wp2_with fail
  refine (long_ok g _ _ _ 0 _ HD.out (by decide) (by decide)).mono ?_
  rintro e w6 ⟨rfl, rfl⟩
  go_wp2_with fail
  refine (expects_ok g _ _ _ _ HD.out (by decide)).mono ?_
  rintro e w7 ⟨v, rfl, ho, hb⟩
  have HO := Aside.mk ho
  have HB2 := Aside.mk (HB.out.trans (hb.mono HB.out.size))
  clear ho hb HB
  go_wp2_with fail
  obtain ⟨g1, cap1, rfl, hg1, hc1⟩ := own_ints (xs := [6, 102]) HO.out (by decide)
  refine (ints_same g1 _ cap1 2 [6, 102] _ (by decide) (fun i hi => ?_) (fun i hi => ?_)).mono ?_
  · rw [Below.cell (B := w7.heap.size) ((Below.refl _ _).alloc (Nat.le_refl _) _) (World.block_lt_of_cell? w7 _ (hc1 i hi))]
    exact hc1 i hi
  · rw [cell_of_row _ _ i _ _ _ (heap_alloc_new w7 _)]
    match i, hi with
    | 0, _ => rfl
    | 1, _ => rfl
  rintro e w8 ⟨rfl, m, rfl⟩
  go_wp2_with fail
  go_ret
  exact ⟨rfl, bel_drewN (HB2.out.alloc HB2.out.size _) m⟩

set_option maxHeartbeats 400000 in
set_option maxRecDepth 100000 in
theorem known_ok (w : World) : Calls Try.prog 3 #[] w fun e w' => e = .returned (.bool true) ∧ Below w.heap.size w w' := by
  go_enter Try.func3, Try.ntmps3
  go_wp2_with fail
  refine (awake_ok _).mono ?_
  rintro e w1 ⟨rfl, hb⟩
  have HB := Aside.mk hb
  clear hb
  go_wp2_with fail
  refine (new_bad 0 _ (by omega)).mono ?_
  rintro e w2 ⟨rfl, rfl⟩
  go_wp2_with fail
  refine (new_bad 17 _ (by omega)).mono ?_
  rintro e w3 ⟨rfl, rfl⟩
  go_wp2_with fail
  refine (new_ok 2 _ (by omega) (by omega)).mono ?_
  rintro e w4 ⟨rfl, hd, hb⟩
  have HB2 := Aside.mk (HB.out.trans (hb.mono HB.out.size))
  have HD := Aside.mk hd
  clear hd hb
  generalize w3.heap.size + 1 = g at *
  go_wp2_with fail
  refine (feed_bad g (-1) 1 _ (by omega) (by omega) (by omega)).mono ?_
  rintro e w5 ⟨rfl, rfl⟩
  go_wp2_with fail
  refine (feed_bad g 1 0 _ (by omega) (by omega) (by omega)).mono ?_
  rintro e w6 ⟨rfl, rfl⟩
  go_wp2_with fail
  refine (feed_bad g 1073741824 1 _ (by omega) (by omega) (by omega)).mono ?_
  rintro e w7 ⟨rfl, rfl⟩
  go_wp2_with fail
  refine (long_bad g _ _ _ 2 _ HD.out (by decide) (by decide)).mono ?_
  rintro e w8 ⟨rfl, rfl⟩
  go_wp2_with fail
  refine (long_ok g _ _ _ 1 _ HD.out (by decide) (by decide)).mono ?_
  rintro e w9 ⟨rfl, rfl⟩
  go_wp2_with fail
  refine (expects_ok g _ _ _ _ HD.out (by decide)).mono ?_
  rintro e w10 ⟨v, rfl, ho, hb⟩
  have HO := Aside.mk ho
  have HB3 := Aside.mk (HB2.out.trans (hb.mono HB2.out.size))
  clear ho hb HB HB2
  go_wp2_with fail
  obtain ⟨g1, cap1, rfl, hg1, hc1⟩ := own_ints (xs := [-1, -1]) HO.out (by decide)
  refine (ints_same g1 _ cap1 2 [-1, -1] _ (by decide) (fun i hi => ?_) (fun i hi => ?_)).mono ?_
  · rw [Below.cell (B := w10.heap.size) ((Below.refl _ _).alloc (Nat.le_refl _) _) (World.block_lt_of_cell? w10 _ (hc1 i hi))]
    exact hc1 i hi
  · rw [cell_of_row _ _ i _ _ _ (heap_alloc_new w10 _)]
    match i, hi with
    | 0, _ => rfl
    | 1, _ => rfl
  rintro e w11 ⟨rfl, m, rfl⟩
  go_wp2_with fail
  go_ret
  exact ⟨rfl, bel_drewN (HB3.out.alloc HB3.out.size _) m⟩
end Go.Proofs.Ytojgjjgfbbejmaa
