/- What Feed comes to. -/
import Derived.Test.YtojgjjgfbbejmaaDet
import Derived.Lib.Hide
namespace Go.Proofs.Ytojgjjgfbbejmaa
open Go.RowKit
set_option linter.unusedVariables false
set_option linter.unusedSimpArgs false

set_option maxHeartbeats 400000 in
set_option maxRecDepth 100000 in
theorem feed_bad (g : Nat) (lba n : Int) (w : World) (hl : -9223372036854775808 ≤ lba ∧ lba ≤ 9223372036854775807) (hn : -9223372036854775808 ≤ n ∧ n ≤ 9223372036854775807)
    (h : lba < 0 ∨ n < 1 ∨ 1073741824 < n ∨ 1073741824 - n < lba) :
    Calls Try.prog 9 #[.pointer (some ⟨g, 0, none⟩), .int .i64 lba, .int .i64 n] w fun e w' => e = .returned (.tuple #[.int .i64 0, .int .i64 1]) ∧ w' = w := by
  by_cases h1 : lba < 0
  · clear h
    go_enter Try.func9, Try.ntmps9
    go_wp2
    go_ret2
    exact ⟨rfl, rfl⟩
  · by_cases h2 : n < 1
    · clear h
      go_enter Try.func9, Try.ntmps9
      go_wp2
      go_ret2
      exact ⟨rfl, rfl⟩
    · by_cases h3 : 1073741824 < n
      · clear h
        go_enter Try.func9, Try.ntmps9
        go_wp2
        go_ret2
        exact ⟨rfl, rfl⟩
      · have h4 : 1073741824 - n < lba := by omega
        clear h
        go_enter Try.func9, Try.ntmps9
        go_wp2
        go_ret2
        exact ⟨rfl, rfl⟩

theorem getD_at {α : Type} (l : List α) (i : Nat) {z : α} (h : i < l.length) : l.getD i z = l[i] := by simp [List.getD, h]
def z3 : One := (0, 0, 0)
theorem cell_flatD {w : World} {B : Nat} {l : List One} (h : w.heap[B]? = some (.cells (flat l).toArray 47 (0, 0))) (i : Nat) (hi : i < l.length) :
    w.cell? ⟨B, i * 3, none⟩ = some (.int .i64 (l.getD i z3).1) ∧ w.cell? ⟨B, i * 3 + 1, none⟩ = some (.int .i64 (l.getD i z3).2.1) ∧ w.cell? ⟨B, i * 3 + 2, none⟩ = some (.int .i64 (l.getD i z3).2.2) := by
  rw [getD_at _ _ hi]; exact cell_flat h i hi
def bestTo (l : List One) (lba : Int) : Nat → Int
  | 0 => -1
  | k + 1 => if (l.getD k z3).1 = lba ∧ (bestTo l lba k < 0 ∨ (l.getD (bestTo l lba k).toNat z3).2.1 < (l.getD k z3).2.1) then k else bestTo l lba k
def oldTo (l : List One) : Nat → Nat
  | 0 => 0
  | k + 1 => if (l.getD k z3).2.1 < (l.getD (oldTo l k) z3).2.1 then k else oldTo l k
theorem best_lt (l : List One) (lba : Int) : ∀ k, -1 ≤ bestTo l lba k ∧ bestTo l lba k < max k 1 := by
  intro k
  induction k with
  | zero => simp [bestTo]
  | succ k ih => unfold bestTo; split <;> omega
theorem old_lt (l : List One) : ∀ k, oldTo l k < max k 1 := by
  intro k
  induction k with
  | zero => simp [oldTo]
  | succ k ih => unfold oldTo; split <;> omega

theorem IsDet.alloc {w : World} {g B : Nat} {l : List One} {now : Int} (h : IsDet w g B l now) (o : Obj) : IsDet (w.alloc o) g B l now :=
  ⟨(Below.heap_alloc _ _ _ (Array.getElem?_eq_some_iff.1 h.d).1).trans h.d, (Below.heap_alloc _ _ _ (Array.getElem?_eq_some_iff.1 h.s).1).trans h.s⟩
theorem IsDet.drewN {w : World} {g B : Nat} {l : List One} {now : Int} (h : IsDet w g B l now) (n : Nat) : IsDet (w.drewN n) g B l now := ⟨h.d, h.s⟩

def Good (lba n : Int) : Prop := 0 ≤ lba ∧ 1 ≤ n ∧ n ≤ 1073741824 ∧ lba ≤ 1073741824 - n

/-- Which stream takes a command, and what the streams are behind it. -/
def feedAt (l : List One) (lba : Int) : Nat := if bestTo l lba l.length < 0 then oldTo l l.length else (bestTo l lba l.length).toNat
def feedL (l : List One) (now lba n : Int) : List One := l.set (feedAt l lba) (lba + n, now + 1, if bestTo l lba l.length < 0 then 1 else (l.getD (feedAt l lba) z3).2.2 + 1)
theorem feedAt_lt (l : List One) (lba : Int) (h : 1 ≤ l.length) : feedAt l lba < l.length := by
  have := best_lt l lba l.length
  have := old_lt l l.length
  unfold feedAt
  split <;> omega

theorem set3 {w : World} {B : Nat} {l : List One} (h : w.heap[B]? = some (.cells (flat l).toArray 47 (0, 0))) (i : Nat) (hi : i < l.length) (a b c : Int) :
    (((w.setCell ⟨B, i * 3, none⟩ (.int .i64 a)).setCell ⟨B, i * 3 + 1, none⟩ (.int .i64 b)).setCell ⟨B, i * 3 + 2, none⟩ (.int .i64 c)).heap[B]? = some (.cells (flat (l.set i (a, b, c))).toArray 47 (0, 0)) := by
  rw [set_block (set_block (set_block h _ _) _ _) _ _, flat_set l i (a, b, c) hi]

theorem fed {w : World} {g B : Nat} {l : List One} {now : Int} (h : IsDet w g B l now) (hne : g ≠ B) (i : Nat) (hi : i < l.length) (a b c : Int) :
    IsDet ((((w.setCell ⟨g, 1, none⟩ (.int .i64 (now + 1))).setCell ⟨B, i * 3, none⟩ (.int .i64 a)).setCell ⟨B, i * 3 + 1, none⟩ (.int .i64 b)).setCell ⟨B, i * 3 + 2, none⟩ (.int .i64 c)) g B (l.set i (a, b, c)) (now + 1) := by
  refine ⟨?_, set3 (far_block h.s (fun e => hne e.symm) _) i hi a b c⟩
  have := set_block (cs := [.slice (some ⟨B, 0, none⟩) l.length l.length, .int .i64 now]) h.d 1 (.int .i64 (now + 1))
  rw [far_block (far_block (far_block this hne _) hne _) hne _]
  simp

def FeedPost (g B : Nat) (l : List One) (now lba n : Int) (w : World) (e : Ending) (w' : World) : Prop :=
  e = .returned (.tuple #[.int .i64 (feedAt l lba), .int .i64 0]) ∧ IsDet w' g B (feedL l now lba n) (now + 1) ∧ Fr (fun k => k = g ∨ k = B) w w'

theorem fed_frame {w wr : World} (h : Fr (fun _ => False) w wr) (g B i j k : Nat) (u a b c : Value) : Fr (fun k => k = g ∨ k = B) w ((((wr.setCell ⟨g, 1, none⟩ u).setCell ⟨B, i, none⟩ a).setCell ⟨B, j, none⟩ b).setCell ⟨B, k, none⟩ c) :=
  ((((h.mono (fun _ h => h.elim) : Fr (fun k => k = g ∨ k = B) w wr).set (.inl (.inl rfl)) _).set (.inl (.inr rfl)) _).set (.inl (.inr rfl)) _).set (.inl (.inr rfl)) _

set_option maxHeartbeats 400000 in
set_option maxRecDepth 100000 in
theorem feed_ok (g B : Nat) (l : List One) (now lba n : Int) (w : World) (hd : IsDet w g B l now) (hne : g ≠ B) (hl : 1 ≤ l.length ∧ l.length ≤ 16) (hnow : 0 ≤ now ∧ now ≤ 100000)
    (hlong : ∀ i, i < l.length → 0 ≤ (l.getD i z3).2.2 ∧ (l.getD i z3).2.2 ≤ 100000) (h : Good lba n) :
    Calls Try.prog 9 #[.pointer (some ⟨g, 0, none⟩), .int .i64 lba, .int .i64 n] w (FeedPost g B l now lba n w) := by
  have HL := Aside.mk hlong
  clear hlong
  obtain ⟨h0, h1, h2, h3⟩ := h
  obtain ⟨l1, l16⟩ := hl
  have HD := Aside.mk hd
  have hc0 := cell_of_row _ _ 0 _ _ _ hd.d
  have hc1 := cell_of_row _ _ 1 _ _ _ hd.d
  clear hd
  go_enter Try.func9, Try.ntmps9
  go_wp2
  go_loopw [8, 9, 34] (fun v8 v9 v34 wr => ∃ k : Nat, k ≤ l.length ∧ v34 = .int .i64 k ∧ v8 = .int .i64 (bestTo l lba k) ∧ v9 = .int .i64 (oldTo l k) ∧ Aside (IsDet wr g B l now ∧ Fr (fun _ => False) w wr)) (fun _ _ v _ => l.length - (intOf v).toNat)
  case atStart => exact ⟨0, Nat.zero_le _, rfl, rfl, rfl, ⟨HD.out, Fr.refl _ _⟩⟩
  case round =>
    obtain ⟨k, hk, rfl, rfl, rfl, HK⟩ := hrel
    obtain ⟨hd, hF⟩ := HK.out
    by_cases hlt : k < l.length
    · have hc0 := cell_of_row _ _ 0 _ _ _ hd.d
      obtain ⟨ha0, ha1, ha2⟩ := cell_flat hd.s k hlt
      have hgs := (Array.getElem?_eq_some_iff.1 hd.d).1
      have hBs := (Array.getElem?_eq_some_iff.1 hd.s).1
      have bl := best_lt l lba k
      have ol := old_lt l k
      have hbs : bestTo l lba (k + 1) = if l[k].1 = lba ∧ (bestTo l lba k < 0 ∨ (l.getD (bestTo l lba k).toNat z3).2.1 < l[k].2.1) then (k : Int) else bestTo l lba k := by
        show (if (l.getD k z3).1 = lba ∧ _ then _ else _) = _
        rw [getD_at _ _ hlt]
      have hos : oldTo l (k + 1) = if l[k].2.1 < (l.getD (oldTo l k) z3).2.1 then k else oldTo l k := by
        show (if (l.getD k z3).2.1 < _ then _ else _) = _
        rw [getD_at _ _ hlt]
      have hbc : 0 ≤ bestTo l lba k → wr.cell? ⟨B, (bestTo l lba k).toNat * 3 + 1, none⟩ = some (.int .i64 (l.getD (bestTo l lba k).toNat z3).2.1) := by
        intro hb
        rw [getD_at _ _ (by omega)]
        exact (cell_flat hd.s _ (by omega)).2.1
      have hoc : wr.cell? ⟨B, oldTo l k * 3 + 1, none⟩ = some (.int .i64 (l.getD (oldTo l k) z3).2.1) := by
        rw [getD_at _ _ (by omega)]
        exact (cell_flat hd.s _ (by omega)).2.1
      clear hd hF
      generalize (l.getD (bestTo l lba k).toNat z3).2.1 = ub at *
      generalize (l.getD (oldTo l k) z3).2.1 = uo at *
      generalize bestTo l lba k = b at *
      generalize oldTo l k = o at *
      generalize l[k].1 = e at *
      generalize l[k].2.1 = u at *
      generalize l[k].2.2 = q at *
      have hbcase : ((e == lba) = false ∧ bestTo l lba (k + 1) = b) ∨ ((e == lba) = true ∧ decide (b < 0) = true ∧ bestTo l lba (k + 1) = k) ∨ ((e == lba) = true ∧ decide (b < 0) = false ∧ 0 ≤ b ∧ decide (ub < u) = true ∧ bestTo l lba (k + 1) = k) ∨ ((e == lba) = true ∧ decide (b < 0) = false ∧ 0 ≤ b ∧ decide (ub < u) = false ∧ bestTo l lba (k + 1) = b) := by
        by_cases he : e = lba
        · by_cases hb0 : b < 0
          · rw [if_pos ⟨he, .inl hb0⟩] at hbs
            exact .inr (.inl ⟨beq_iff_eq.2 he, decide_eq_true hb0, hbs⟩)
          · by_cases hub : ub < u
            · rw [if_pos ⟨he, .inr hub⟩] at hbs
              exact .inr (.inr (.inl ⟨beq_iff_eq.2 he, decide_eq_false hb0, by omega, decide_eq_true hub, hbs⟩))
            · rw [if_neg (by rintro ⟨_, h | h⟩ <;> contradiction)] at hbs
              exact .inr (.inr (.inr ⟨beq_iff_eq.2 he, decide_eq_false hb0, by omega, decide_eq_false hub, hbs⟩))
        · rw [if_neg (fun h => he h.1)] at hbs
          exact .inl ⟨beq_eq_false_iff_ne.2 he, hbs⟩
      have hocase : (decide (u < uo) = true ∧ oldTo l (k + 1) = k) ∨ (decide (u < uo) = false ∧ oldTo l (k + 1) = o) := by
        by_cases hu : u < uo
        · rw [if_pos hu] at hos; exact .inl ⟨decide_eq_true hu, hos⟩
        · rw [if_neg hu] at hos; exact .inr ⟨decide_eq_false hu, hos⟩
      clear hbs hos
      rcases hbcase with ⟨heb, hbs⟩ | ⟨heb, hbb, hbs⟩ | ⟨heb, hbb, hb0, hubb, hbs⟩ | ⟨heb, hbb, hb0, hubb, hbs⟩
      all_goals
        try replace hbc := hbc hb0
        try (obtain ⟨b, rfl⟩ := Int.eq_ofNat_of_zero_le hb0)
        try rw [Int.toNat_natCast] at hbc
        have HBS := Lib.hid hbs
        clear hbs
        rcases hocase with ⟨huo, hos⟩ | ⟨huo, hos⟩
      all_goals
        have HOS := Lib.hid hos
        clear hos
        go_wp2
        go_quiet (fail)
        go_wp2
        go_quiet (fail)
        go_wp2
        go_roundw
        case rel =>
          obtain ⟨hd, hF⟩ := HK.out
          exact ⟨k + 1, by omega, by go_num, by rw [HBS.out], by rw [HOS.out], ⟨(hd.alloc _).drewN _, (hF.alloc _).drewN _⟩⟩
        case measure => simp [intOf]; omega
    · have hkl : k = l.length := by omega
      subst hkl
      have hc0 := cell_of_row _ _ 0 _ _ _ hd.d
      have hc1 := cell_of_row _ _ 1 _ _ _ hd.d
      have hf1 := frozen_block hd.d 1
      have bl := best_lt l lba l.length
      have ol := old_lt l l.length
      have hat := feedAt_lt l lba (by omega)
      have hlg := HL.out (feedAt l lba) hat
      obtain ⟨ha0, ha1, ha2⟩ := cell_flatD hd.s (feedAt l lba) hat
      have hg0 := frozen_block hd.s (feedAt l lba * 3)
      have hg1 := frozen_block hd.s (feedAt l lba * 3 + 1)
      have hg2 := frozen_block hd.s (feedAt l lba * 3 + 2)
      by_cases hb : bestTo l lba l.length < 0
      · have hbb : decide (bestTo l lba l.length < 0) = true := decide_eq_true hb
        have hfe : feedAt l lba = oldTo l l.length := if_pos hb
        have hfl : feedL l now lba n = l.set (oldTo l l.length) (lba + n, now + 1, 1) := by unfold feedL; rw [if_pos hb, hfe]
        have HFE := Lib.hid hfe
        have HFL := Lib.hid hfl
        rw [hfe] at ha0 ha1 ha2 hg0 hg1 hg2
        clear hd hF hfe hfl hlg hat hb
        go_wp2
        go_region
        go_wp2
        go_ret2
        obtain ⟨hd, hF⟩ := HK.out
        refine ⟨?_, ?_, ?_⟩
        · rw [HFE.out]; rfl
        · rw [HFL.out]
          exact (fed hd hne _ (by omega) _ _ _).drewN 1
        · exact (fed_frame hF g B _ _ _ _ _ _ _).drew
      · have hbb : decide (bestTo l lba l.length < 0) = false := decide_eq_false hb
        have hfe : feedAt l lba = (bestTo l lba l.length).toNat := if_neg hb
        have hfl : feedL l now lba n = l.set (feedAt l lba) (lba + n, now + 1, (l.getD (feedAt l lba) z3).2.2 + 1) := by unfold feedL; rw [if_neg hb]
        have HFL := Lib.hid hfl
        have hbe : bestTo l lba l.length = (feedAt l lba : Int) := by omega
        clear hd hF hfl hb hfe
        generalize bestTo l lba l.length = b at *
        subst hbe
        generalize hfi : feedAt l lba = i at *
        have HFI := Lib.hid hfi
        clear hfi
        generalize (l.getD i z3).2.2 = q at *
        generalize (l.getD i z3).2.1 = u at *
        generalize (l.getD i z3).1 = e at *
        go_wp2
        go_region
        go_wp2
        go_ret2
        obtain ⟨hd, hF⟩ := HK.out
        refine ⟨?_, ?_, ?_⟩
        · rw [HFI.out]; rfl
        · rw [HFL.out]
          exact (fed hd hne _ (by omega) _ _ _).drewN 1
        · exact (fed_frame hF g B _ _ _ _ _ _ _).drew
end Go.Proofs.Ytojgjjgfbbejmaa
