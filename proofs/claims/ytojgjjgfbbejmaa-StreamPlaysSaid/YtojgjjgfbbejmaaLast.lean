/- StreamLast: one expectation changes at a time. -/
import Derived.Test.YtojgjjgfbbejmaaAwake
import Derived.Deep.RegionWith
namespace Go.Proofs.Ytojgjjgfbbejmaa
open Go.RowKit
set_option linter.unusedVariables false
set_option linter.unusedSimpArgs false

def goodB (lba n : Int) : Bool := decide (0 ≤ lba) && decide (1 ≤ n) && decide (n ≤ 1073741824) && decide (lba ≤ 1073741824 - n)
theorem goodB_iff (lba n : Int) : goodB lba n = true ↔ Good lba n := by simp [goodB, Good, and_assoc]
/-- What a command's answer is, its error, the streams and the clock behind it. -/
def fedK (l : List One) (lba n : Int) : Int := if goodB lba n then (feedAt l lba : Int) else 0
def fedE (lba n : Int) : Int := if goodB lba n then 0 else 1
def fedL (l : List One) (now lba n : Int) : List One := if goodB lba n then feedL l now lba n else l
def fedNow (now lba n : Int) : Int := if goodB lba n then now + 1 else now
theorem feedL_length (l : List One) (now lba n : Int) : (feedL l now lba n).length = l.length := by simp [feedL]
theorem fedL_length (l : List One) (now lba n : Int) : (fedL l now lba n).length = l.length := by unfold fedL; split <;> simp [feedL_length]

def LongOk (l : List One) (now : Int) : Prop := ∀ i, i < l.length → 0 ≤ (l.getD i z3).2.2 ∧ (l.getD i z3).2.2 ≤ now
theorem getD_set (l : List One) (i j : Nat) (a : One) (hi : i < l.length) (hj : j < l.length) : (l.set i a).getD j z3 = if i = j then a else l.getD j z3 := by
  rw [getD_at _ _ (by simpa using hj), List.getElem_set]
  split
  · rfl
  · rw [getD_at _ _ hj]
theorem LongOk.fed {l : List One} {now : Int} (h : LongOk l now) (h0 : 0 ≤ now) (h1 : 1 ≤ l.length) (lba n : Int) : LongOk (fedL l now lba n) (fedNow now lba n) := by
  unfold fedL fedNow
  split
  · intro i hi
    rw [feedL_length] at hi
    have hat := feedAt_lt l lba h1
    have hb := h _ hat
    have hi' := h _ hi
    unfold feedL
    rw [getD_set _ _ _ _ hat hi]
    split
    · show 0 ≤ (if _ then (1 : Int) else _) ∧ (if _ then (1 : Int) else _) ≤ _
      split
      · omega
      · show 0 ≤ (l.getD (feedAt l lba) z3).2.2 + 1 ∧ (l.getD (feedAt l lba) z3).2.2 + 1 ≤ now + 1; omega
    · show 0 ≤ (l.getD i z3).2.2 ∧ (l.getD i z3).2.2 ≤ now + 1
      omega
  · exact h

/-- The expectation of each stream behind a command. -/
theorem fedL_exp (l : List One) (now lba n : Int) (h1 : 1 ≤ l.length) (j : Nat) (hj : j < l.length) :
    ((fedL l now lba n).getD j z3).1 = if fedE lba n = 0 ∧ (j : Int) = fedK l lba n then lba + n else (l.getD j z3).1 := by
  unfold fedL fedE fedK
  by_cases hg : goodB lba n = true
  · rw [if_pos hg, if_pos hg, if_pos hg]
    unfold feedL
    rw [getD_set _ _ _ _ (feedAt_lt l lba h1) hj]
    by_cases e : feedAt l lba = j
    · rw [if_pos e, if_pos (show (0 : Int) = 0 ∧ (j : Int) = feedAt l lba from ⟨rfl, by omega⟩)]
    · rw [if_neg e, if_neg (by omega)]
  · rw [if_neg hg, if_neg hg, if_neg hg, if_neg (by omega)]

def FedPost (g B : Nat) (l : List One) (now lba n : Int) (w : World) (e : Ending) (w' : World) : Prop :=
  e = .returned (.tuple #[.int .i64 (fedK l lba n), .int .i64 (fedE lba n)]) ∧ IsDet w' g B (fedL l now lba n) (fedNow now lba n) ∧ Fr (fun k => k = g ∨ k = B) w w'

def InInt (x : Int) : Prop := -9223372036854775808 ≤ x ∧ x ≤ 9223372036854775807
theorem feed_any (g B : Nat) (l : List One) (now lba n : Int) (w : World) (hd : IsDet w g B l now) (hne : g ≠ B) (hl : 1 ≤ l.length ∧ l.length ≤ 16) (hnow : 0 ≤ now ∧ now ≤ 100000)
    (hlong : LongOk l now) (hlba : InInt lba) (hn : InInt n) :
    Calls Try.prog 9 #[.pointer (some ⟨g, 0, none⟩), .int .i64 lba, .int .i64 n] w (FedPost g B l now lba n w) := by
  by_cases hg : goodB lba n = true
  · refine (feed_ok g B l now lba n w hd hne hl hnow (fun i hi => by have := hlong i hi; omega) ((goodB_iff _ _).1 hg)).mono ?_
    rintro e w' ⟨rfl, hd', hF⟩
    refine ⟨?_, ?_, hF⟩
    · unfold fedK fedE; rw [if_pos hg, if_pos hg]
    · unfold fedL fedNow; rw [if_pos hg, if_pos hg]; exact hd'
  · refine (feed_bad g lba n w hlba hn (by have : ¬ Good lba n := fun h => hg ((goodB_iff _ _).2 h); unfold Good at this; omega)).mono ?_
    rintro e w' ⟨rfl, rfl⟩
    refine ⟨?_, ?_, Fr.refl _ _⟩
    · unfold fedK fedE; rw [if_neg hg, if_neg hg]
    · unfold fedL fedNow; rw [if_neg hg, if_neg hg]; exact hd

/-- A slice of commands that came in. -/
structure Acts (w : World) (A : Option Addr) (xs : List (Int × Int)) : Prop where
  fit : ∀ i (h : i < xs.length), InInt xs[i].1 ∧ InInt xs[i].2
  mem : 1 ≤ xs.length → ∃ b off, A = some ⟨b, off, none⟩ ∧ b < w.heap.size ∧ ∀ i (h : i < xs.length), w.cell? ⟨b, off + i * 2, none⟩ = some (.int .i64 xs[i].1) ∧ w.cell? ⟨b, off + i * 2 + 1, none⟩ = some (.int .i64 xs[i].2)

set_option maxHeartbeats 400000 in
set_option maxRecDepth 100000 in
theorem last_out (n : Int) (A : Option Addr) (len cap : Nat) (w : World) (h : n < 1 ∨ 16 < n ∨ 100 < len) (hlen : len ≤ maxLen) :
    Calls Try.prog 6 #[.int .i64 n, .slice A len cap] w fun e w' => e = .returned (.bool true) ∧ Below w.heap.size w w' := by
  unfold maxLen at hlen
  by_cases hn : n < 1 ∨ 16 < n
  · clear h
    go_enter Try.func6, Try.ntmps6
    go_wp2_with (first | (go_at_call 7; refine (awake_ok _).mono ?_; rintro e w1 ⟨rfl, hb⟩; have HB := Aside.mk hb; clear hb) | (go_at_call 8; refine (new_bad _ _ hn).mono ?_; rintro e w2 ⟨rfl, rfl⟩))
    go_ret
    exact ⟨rfl, HB.out⟩
  · obtain ⟨m, rfl⟩ := Int.eq_ofNat_of_zero_le (show 0 ≤ n by omega)
    have hl : 100 < len := by omega
    have h1 : 1 ≤ m := by omega
    have h2 : m ≤ 16 := by omega
    clear h hn
    go_enter Try.func6, Try.ntmps6
    go_wp2_with (first | (go_at_call 7; refine (awake_ok _).mono ?_; rintro e w1 ⟨rfl, hb⟩; have HB := Aside.mk hb; clear hb) | (go_at_call 8; refine (new_ok _ _ h1 h2).mono ?_; rintro e w2 ⟨rfl, -, hb⟩; have HB2 := Aside.mk (HB.out.trans (hb.mono HB.out.size)); clear hb))
    go_ret
    exact ⟨rfl, HB2.out⟩

def LastRel (w wr : World) (g B n : Nat) (l : List One) (now : Int) (i : Nat) : Prop :=
  IsDet wr g B l now ∧ l.length = n ∧ 0 ≤ now ∧ now ≤ i ∧ LongOk l now ∧ Below w.heap.size w wr ∧ w.heap.size ≤ g ∧ w.heap.size ≤ B ∧ g ≠ B

set_option maxHeartbeats 400000 in
set_option maxRecDepth 100000 in
theorem last_in (n : Nat) (A : Option Addr) (cap : Nat) (xs : List (Int × Int)) (w : World) (h1 : 1 ≤ n) (h2 : n ≤ 16) (h3 : xs.length ≤ 100) (hA : Acts w A xs) :
    Calls Try.prog 6 #[.int .i64 n, .slice A xs.length cap] w fun e w' => e = .returned (.bool true) ∧ Below w.heap.size w w' := by
  have HA := Aside.mk hA
  clear hA
  go_enter Try.func6, Try.ntmps6
  go_wp2_with fail
  refine (awake_ok _).mono ?_
  rintro e w1 ⟨rfl, hb⟩
  have HB := Aside.mk hb
  clear hb
  go_wp2_with fail
  refine (new_ok n _ h1 h2).mono ?_
  rintro e w2 ⟨rfl, hd, hb⟩
  have HR : Aside (∃ l now, LastRel w w2 (w1.heap.size + 1) w1.heap.size n l now 0) :=
    ⟨_, _, hd, by simp, by omega, by omega, fun i hi => by rw [getD_at _ _ hi]; simp, HB.out.trans (hb.mono HB.out.size), by have := HB.out.size; omega, HB.out.size, by omega⟩
  clear hd hb HB
  generalize w1.heap.size + 1 = g at *
  generalize w1.heap.size = B at *
  go_wp2_with fail
  go_loopw [7] (fun v wr => ∃ i : Nat, i ≤ xs.length ∧ v = .int .i64 i ∧ Aside (∃ l now, LastRel w wr g B n l now i)) (fun v _ => xs.length - (intOf v).toNat)
  case atStart => exact ⟨0, by omega, rfl, HR⟩
  case round =>
    obtain ⟨i, hi, rfl, HR⟩ := hrel
    by_cases hlt : i < xs.length
    · obtain ⟨l, now, hd, hl, hn0, hni, hlo, hb, hg, hB, hne⟩ := HR.out
      subst hl
      have hl : l.length = l.length := rfl
      obtain ⟨b, off, rfl, hbw, hcs⟩ := HA.out.mem (by omega)
      obtain ⟨hx, hy⟩ := hcs i hlt
      obtain ⟨fx, fy⟩ := HA.out.fit i hlt
      have HD := Aside.mk hd
      have HL := Aside.mk hl
      have HLO := Aside.mk hlo
      have HB := Aside.mk hb
      clear hd hl hlo hb hcs HR
      generalize xs[i].1 = x at *
      generalize xs[i].2 = y at *
      go_wp2_with fail
      refine (expects_ok g B l now _ HD.out (by have := HL.out; omega)).mono ?_
      rintro e w3 ⟨v, rfl, ho, hb3⟩
      rw [exps_all] at ho
      have ho' : w3.ownsRow wr.heap.size 3 1 v (l.map (·.1)).length ((l.map (·.1)).map (Value.int .i64)) := by rw [List.length_map, List.map_map]; exact ho
      obtain ⟨g1, cap1, rfl, hg1, hc1⟩ := own_ints ho' (by have := HL.out; simp; omega)
      have HC1 := Aside.mk hc1
      have HB3 := Aside.mk (HB.out.trans (hb3.mono HB.out.size))
      have HD3 := Aside.mk (HD.out.below hb3)
      have hd0 := HD.out
      have hb30 : wr.heap.size ≤ w3.heap.size := hb3.size
      have HXW := Aside.mk hx
      have HYW := Aside.mk hy
      have HD0 := Aside.mk hd0
      clear hd0
      have hx3 : w3.cell? ⟨b, off + i * 2, none⟩ = some (.int .i64 x) := (HB3.out.cell (p := ⟨b, _, none⟩) hbw).trans hx
      have hy3 : w3.cell? ⟨b, off + i * 2 + 1, none⟩ = some (.int .i64 y) := (HB3.out.cell (p := ⟨b, _, none⟩) hbw).trans hy
      clear ho ho' hc1 hb3 HD HB hx hy
      go_wp2_with fail
      have hll : 1 ≤ l.length ∧ l.length ≤ 16 := by have := HL.out; omega
      have hnn : 0 ≤ now ∧ now ≤ 100000 := by omega
      go_cut [9, 10] (fun v9 v10 wc => v9 = .int .i64 (fedK l x y) ∧ v10 = .int .i64 (fedE x y) ∧ Aside (IsDet wc g B (fedL l now x y) (fedNow now x y) ∧ Fr (fun k => k = g ∨ k = B) w3 wc))
      case first =>
        go_region_with (go_at_call 9; refine (feed_any g B l now x y _ ?c1 hne hll hnn HLO.out fx fy).mono ?_; (case c1 => exact HD3.out.drewN 1); rintro e w4 ⟨rfl, hd4, hF4⟩; have HD4 := Aside.mk hd4; have HF4 := Aside.mk hF4; clear hd4 hF4)
        all_goals
          go_wp2_with fail
          go_meet
          case rel => exact ⟨rfl, rfl, ⟨HD4.out, ((Fr.refl _ w3).drew).trans HF4.out (fun _ _ h => h)⟩⟩
      case rest =>
      obtain ⟨rfl, rfl, HC⟩ := hcut
      clear HD3 hx3 hy3
      have HBc := Aside.mk (HB3.out.trans ⟨HC.out.2.os, HC.out.2.tape, HC.out.2.output, HC.out.2.size, fun k hk => HC.out.2.block k (Nat.lt_of_lt_of_le hk HB3.out.size) (by omega)⟩)
      have HL1 : Aside ((fedL l now x y).length = l.length) := ⟨fedL_length _ _ _ _⟩
      have HLO1 := Aside.mk (HLO.out.fed hn0 hll.1 x y)
      have HN1 : Aside (0 ≤ fedNow now x y ∧ fedNow now x y ≤ ((i + 1 : Nat) : Int)) := ⟨by unfold fedNow; split <;> omega⟩
      have HEX := Aside.mk (fedL_exp l now x y hll.1)
      have HGD : Aside (fedE x y = 0 → Good x y) := ⟨fun h => by unfold fedE at h; split at h; (rw [goodB_iff] at *; assumption); omega⟩
      have HE01 : Aside (fedE x y = 0 ∨ fedE x y = 1) := ⟨by unfold fedE; split <;> simp⟩
      have HW : Aside (∀ j, j < l.length → wc.cell? ⟨g1, j, none⟩ = some (.int .i64 (l.getD j z3).1)) := ⟨fun j hj => by
        have hj' : j < (l.map (·.1)).length := by rw [List.length_map]; exact hj
        have hlt' := World.block_lt_of_cell? w3 _ (HC1.out j hj')
        have hgl : g < w3.heap.size ∧ g ≠ g1 ∧ B ≠ g1 := by
          have a1 := (Array.getElem?_eq_some_iff.1 HD0.out.d).1
          have a2 := (Array.getElem?_eq_some_iff.1 HD0.out.s).1
          have := hb30
          omega
        rw [World.cell?_of_block (w := w3) (HC.out.2.block g1 hlt' (by omega)), HC1.out j hj', getD_at _ _ hj]
        simp⟩
      clear HLO HC1 HB3 hnn
      go_wp2_with fail
      refine (expects_ok g B _ _ _ HC.out.1 (by have := HL1.out; omega)).mono ?_
      rintro e w5 ⟨v, rfl, ho, hb5⟩
      rw [exps_all] at ho
      have ho' : w5.ownsRow wc.heap.size 3 1 v ((fedL l now x y).map (·.1)).length (((fedL l now x y).map (·.1)).map (Value.int .i64)) := by rw [List.length_map, List.map_map]; exact ho
      obtain ⟨g2, cap2, rfl, hg2, hc2⟩ := own_ints ho' (by have := HL1.out; simp; omega)
      have HB5 := Aside.mk (HBc.out.trans (hb5.mono HBc.out.size))
      have HD5 := Aside.mk (HC.out.1.below hb5)
      have HS : Aside (∀ j, j < l.length → w5.cell? ⟨g1, j, none⟩ = some (.int .i64 (l.getD j z3).1) ∧ w5.cell? ⟨g2, j, none⟩ = some (.int .i64 ((fedL l now x y).getD j z3).1)) := ⟨fun j hj => by
        have hj' : j < ((fedL l now x y).map (·.1)).length := by rw [List.length_map, HL1.out]; exact hj
        refine ⟨?_, ?_⟩
        · rw [hb5.cell (World.block_lt_of_cell? wc _ (HW.out j hj))]; exact HW.out j hj
        · rw [hc2 j hj', getD_at _ _ (by rw [HL1.out]; exact hj)]
          simp⟩
      have hx5 : w5.cell? ⟨b, off + i * 2, none⟩ = some (.int .i64 x) := (HB5.out.cell (p := ⟨b, _, none⟩) hbw).trans HXW.out
      have hy5 : w5.cell? ⟨b, off + i * 2 + 1, none⟩ = some (.int .i64 y) := (HB5.out.cell (p := ⟨b, _, none⟩) hbw).trans HYW.out
      have hlen1 : (fedL l now x y).length = l.length := fedL_length _ _ _ _
      rw [List.length_map, fedL_length]
      clear ho ho' hc2 hb5 HC HW HBc hlen1
      have hl16 := hll.2
      go_wp2_with fail
      go_loopw [12] (fun v wj => ∃ j : Nat, j ≤ l.length ∧ v = .int .i64 j ∧ Aside (∃ m, wj = w5.drewN m)) (fun v _ => l.length - (intOf v).toNat)
      case atStart => exact ⟨0, by omega, rfl, ⟨0, rfl⟩⟩
      case round =>
        obtain ⟨j, hj, rfl, HJ⟩ := hrel
        obtain ⟨m, rfl⟩ := HJ.out
        clear HJ
        by_cases hjl : j < l.length
        · obtain ⟨hc1, hc2⟩ := HS.out j hjl
          have hex := HEX.out j hjl
          have HGD' := HGD
          have hcase : ((fedE x y != 0) = true ∧ ((fedL l now x y).getD j z3).1 = (l.getD j z3).1) ∨ ((fedE x y != 0) = false ∧ ((j : Int) != fedK l x y) = true ∧ ((fedL l now x y).getD j z3).1 = (l.getD j z3).1) ∨ ((fedE x y != 0) = false ∧ ((j : Int) != fedK l x y) = false ∧ Good x y ∧ ((fedL l now x y).getD j z3).1 = x + y) := by
            by_cases h1 : fedE x y = 0
            · by_cases h2 : (j : Int) = fedK l x y
              · exact .inr (.inr ⟨by rw [bne_eq_false_iff_eq]; exact h1, by rw [bne_eq_false_iff_eq]; exact h2, HGD.out h1, by rw [hex, if_pos ⟨h1, h2⟩]⟩)
              · exact .inr (.inl ⟨by rw [bne_eq_false_iff_eq]; exact h1, by rw [bne_iff_ne]; exact h2, by rw [hex, if_neg (fun h => h2 h.2)]⟩)
            · exact .inl ⟨by rw [bne_iff_ne]; exact h1, by rw [hex, if_neg (fun h => h1 h.1)]⟩
          clear hex
          generalize ((fedL l now x y).getD j z3).1 = p at *
          generalize (l.getD j z3).1 = q at *
          rcases hcase with ⟨c1, rfl⟩ | ⟨c1, c2, rfl⟩ | ⟨c1, c2, ⟨e1, e2, e3, e4⟩, rfl⟩
          all_goals
            go_wp2_with fail
            go_quiet (fail)
            go_wp2_with fail
            go_roundw
            case rel => exact ⟨j + 1, by omega, by go_num, ⟨_, rfl⟩⟩
            case measure => simp [intOf]; omega
        · go_wp2_with fail
          go_roundw
          case rel => exact ⟨i + 1, by omega, by go_num, ⟨_, _, HD5.out.drewN m, HL1.out, HN1.out.1, HN1.out.2, HLO1.out, bel_drewN HB5.out m, hg, hB, hne⟩⟩
          case measure => simp [intOf]; omega
    · obtain ⟨l, now, hd, hl, hn0, hni, hlo, hb, hg, hB, hne⟩ := HR.out
      have HB := Aside.mk hb
      clear hd hl hlo hb HR
      go_wp2_with fail
      go_ret
      exact ⟨rfl, HB.out⟩
end Go.Proofs.Ytojgjjgfbbejmaa
