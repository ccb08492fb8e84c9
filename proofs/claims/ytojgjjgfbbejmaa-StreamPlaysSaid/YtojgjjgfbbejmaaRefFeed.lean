/- The document's own detector (package ferruleref13): what Feed comes to. -/
import Derived.Test.YtojgjjgfbbejmaaRef
namespace Go.Proofs.Ytojgjjgfbbejmaa
open Go.RowKit
set_option linter.unusedVariables false
set_option linter.unusedSimpArgs false

/-- A list of whole numbers that begins block b. -/
def Row (w : World) (b : Nat) (xs : List Int) : Prop := ∃ cur : List Value, w.heap[b]? = some (.cells cur.toArray 3 (0, 0)) ∧ xs.length ≤ cur.length ∧ cur.take xs.length = xs.map (Value.int .i64)
theorem Row.cell {w : World} {b : Nat} {xs : List Int} (h : Row w b xs) (i : Nat) (hi : i < xs.length) : w.cell? ⟨b, i, none⟩ = some (.int .i64 (xs.getD i 0)) := by
  obtain ⟨cur, hb, hl, ht⟩ := h
  rw [cell_of_row w b i _ 3 _ hb]
  have h3 : (cur.take xs.length)[i]? = some (.int .i64 (xs.getD i 0)) := by rw [ht]; simp [hi]
  rw [List.getElem?_take, if_pos hi] at h3
  simpa using h3
theorem Row.frozen {w : World} {b : Nat} {xs : List Int} (h : Row w b xs) (i : Nat) : w.frozen? ⟨b, i, none⟩ = false := by
  obtain ⟨cur, hb, hl, ht⟩ := h
  exact frozen_block hb i
theorem Row.lt {w : World} {b : Nat} {xs : List Int} (h : Row w b xs) : b < w.heap.size := by
  obtain ⟨cur, hb, -⟩ := h
  exact (Array.getElem?_eq_some_iff.1 hb).1
theorem Row.of {w w' : World} {b : Nat} {xs : List Int} (h : Row w b xs) (hk : w'.heap[b]? = w.heap[b]?) : Row w' b xs := by
  obtain ⟨cur, hb, hl, ht⟩ := h
  exact ⟨cur, hk.trans hb, hl, ht⟩
theorem Row.far {w : World} {b : Nat} {xs : List Int} (h : Row w b xs) {p : Addr} (hp : b ≠ p.block) (u : Value) : Row (w.setCell p u) b xs := h.of (Below.heap_setCell w p u b hp)
theorem Row.set {w : World} {b : Nat} {xs : List Int} (h : Row w b xs) (i : Nat) (x : Int) : Row (w.setCell ⟨b, i, none⟩ (.int .i64 x)) b (xs.set i x) := by
  obtain ⟨cur, hb, hl, ht⟩ := h
  refine ⟨cur.set i (.int .i64 x), set_block hb i _, by simpa using hl, ?_⟩
  rw [List.length_set, List.map_set, ← ht, List.take_set]

structure IsRef (w : World) (r b0 b1 b2 c0 c1 c2 : Nat) (l : List One) (now : Int) : Prop where
  d : w.heap[r]? = some (.cells #[.slice (some ⟨b0, 0, none⟩) l.length c0, .slice (some ⟨b1, 0, none⟩) l.length c1, .slice (some ⟨b2, 0, none⟩) l.length c2, .int .i64 now] 40 (0, 0))
  r0 : Row w b0 (l.map (·.1))
  r1 : Row w b1 (l.map (·.2.1))
  r2 : Row w b2 (l.map (·.2.2))
  n01 : b0 ≠ b1
  n02 : b0 ≠ b2
  n12 : b1 ≠ b2

theorem IsRef.of {w w' : World} {r b0 b1 b2 c0 c1 c2 : Nat} {l : List One} {now : Int} (h : IsRef w r b0 b1 b2 c0 c1 c2 l now) (hk : ∀ k, k = r ∨ k = b0 ∨ k = b1 ∨ k = b2 → w'.heap[k]? = w.heap[k]?) : IsRef w' r b0 b1 b2 c0 c1 c2 l now :=
  ⟨(hk r (.inl rfl)).trans h.d, h.r0.of (hk _ (.inr (.inl rfl))), h.r1.of (hk _ (.inr (.inr (.inl rfl)))), h.r2.of (hk _ (.inr (.inr (.inr rfl)))), h.n01, h.n02, h.n12⟩
theorem IsRef.ne {w : World} {r b0 b1 b2 c0 c1 c2 : Nat} {l : List One} {now : Int} (h : IsRef w r b0 b1 b2 c0 c1 c2 l now) : r ≠ b0 ∧ r ≠ b1 ∧ r ≠ b2 := by
  have key : ∀ (b : Nat) (xs : List Int), Row w b xs → r ≠ b := by
    rintro b xs ⟨cur, hb, -⟩ rfl
    have := h.d
    rw [hb] at this
    simp at this
  exact ⟨key _ _ h.r0, key _ _ h.r1, key _ _ h.r2⟩
theorem IsRef.lt {w : World} {r b0 b1 b2 c0 c1 c2 : Nat} {l : List One} {now : Int} (h : IsRef w r b0 b1 b2 c0 c1 c2 l now) : r < w.heap.size ∧ b0 < w.heap.size ∧ b1 < w.heap.size ∧ b2 < w.heap.size :=
  ⟨(Array.getElem?_eq_some_iff.1 h.d).1, h.r0.lt, h.r1.lt, h.r2.lt⟩

theorem map_getD (l : List One) (f : One → Int) (i : Nat) (hi : i < l.length) : (l.map f).getD i 0 = f (l.getD i z3) := by
  rw [getD_at _ _ (by simpa using hi), getD_at _ _ hi]; simp

/-- The reference behind a command: the clock, then the three cells of stream i. -/
theorem IsRef.fed {w : World} {r b0 b1 b2 c0 c1 c2 : Nat} {l : List One} {now : Int} (h : IsRef w r b0 b1 b2 c0 c1 c2 l now) (i : Nat) (a b c : Int) :
    IsRef ((((w.setCell ⟨r, 3, none⟩ (.int .i64 (now + 1))).setCell ⟨b2, i, none⟩ (.int .i64 c)).setCell ⟨b1, i, none⟩ (.int .i64 b)).setCell ⟨b0, i, none⟩ (.int .i64 a)) r b0 b1 b2 c0 c1 c2 (l.set i (a, b, c)) (now + 1) := by
  obtain ⟨n0, n1, n2⟩ := h.ne
  refine ⟨?_, ?_, ?_, ?_, h.n01, h.n02, h.n12⟩
  · have := set_block (cs := [.slice (some ⟨b0, 0, none⟩) l.length c0, .slice (some ⟨b1, 0, none⟩) l.length c1, .slice (some ⟨b2, 0, none⟩) l.length c2, .int .i64 now]) h.d 3 (.int .i64 (now + 1))
    rw [far_block (far_block (far_block this n2 _) n1 _) n0 _]
    simp
  · rw [List.map_set]
    exact (((h.r0.far n0.symm _).far h.n02 _).far h.n01 _).set i a
  · rw [List.map_set]
    exact (((h.r1.far n1.symm _).far h.n12 _).set i b).far h.n01.symm _
  · rw [List.map_set]
    exact (((h.r2.far n2.symm _).set i c).far h.n12.symm _).far h.n02.symm _

theorem IsRef.tick {w : World} {r b0 b1 b2 c0 c1 c2 : Nat} {l : List One} {now : Int} (h : IsRef w r b0 b1 b2 c0 c1 c2 l now) : IsRef (w.setCell ⟨r, 3, none⟩ (.int .i64 (now + 1))) r b0 b1 b2 c0 c1 c2 l (now + 1) := by
  obtain ⟨n0, n1, n2⟩ := h.ne
  refine ⟨?_, h.r0.far n0.symm _, h.r1.far n1.symm _, h.r2.far n2.symm _, h.n01, h.n02, h.n12⟩
  have := set_block (cs := [.slice (some ⟨b0, 0, none⟩) l.length c0, .slice (some ⟨b1, 0, none⟩) l.length c1, .slice (some ⟨b2, 0, none⟩) l.length c2, .int .i64 now]) h.d 3 (.int .i64 (now + 1))
  simpa using this
theorem IsRef.anew {w : World} {r b0 b1 b2 c0 c1 c2 : Nat} {l : List One} {now : Int} (h : IsRef w r b0 b1 b2 c0 c1 c2 l now) (i : Nat) (a b c d : Int) :
    IsRef ((((w.setCell ⟨b2, i, none⟩ (.int .i64 d)).setCell ⟨b2, i, none⟩ (.int .i64 c)).setCell ⟨b1, i, none⟩ (.int .i64 b)).setCell ⟨b0, i, none⟩ (.int .i64 a)) r b0 b1 b2 c0 c1 c2 (l.set i (a, b, c)) now := by
  obtain ⟨n0, n1, n2⟩ := h.ne
  refine ⟨?_, ?_, ?_, ?_, h.n01, h.n02, h.n12⟩
  · rw [far_block (far_block (far_block (far_block h.d n2 _) n2 _) n1 _) n0 _]
    simp
  · rw [List.map_set]
    exact (((h.r0.far h.n02 _).far h.n02 _).far h.n01 _).set i a
  · rw [List.map_set]
    exact (((h.r1.far h.n12 _).far h.n12 _).set i b).far h.n01.symm _
  · rw [List.map_set]
    have := (((h.r2.set i d).set i c).far (p := ⟨b1, i, none⟩) h.n12.symm (.int .i64 b)).far (p := ⟨b0, i, none⟩) h.n02.symm (.int .i64 a)
    rwa [List.set_set] at this
theorem IsRef.drewN {w : World} {r b0 b1 b2 c0 c1 c2 : Nat} {l : List One} {now : Int} (h : IsRef w r b0 b1 b2 c0 c1 c2 l now) (n : Nat) : IsRef (w.drewN n) r b0 b1 b2 c0 c1 c2 l now := h.of fun _ _ => rfl

/-- A made reference is one of streams that expect nothing. -/
theorem Mk.ref {w : World} {base r : Nat} {v0 v1 v2 : Value} {n : Nat} (h : Mk w base r v0 v1 v2 (made (-1) n) (made 0 n) (made 0 n)) (hn : 1 ≤ n) :
    ∃ b0 b1 b2 c0 c1 c2, IsRef w r b0 b1 b2 c0 c1 c2 (List.replicate n (-1, 0, 0)) 0 ∧ base ≤ b0 ∧ base ≤ b1 ∧ base ≤ b2 := by
  have key : ∀ (v : Value) (x : Int), w.ownsRow base 3 1 v (made x n).length ((made x n).map (Value.int .i64)) → ∃ b c, v = .slice (some ⟨b, 0, none⟩) n c ∧ Row w b (made x n) ∧ base ≤ b := by
    intro v x ho
    rcases ho.2 with ⟨_, h0⟩ | ⟨g, cap, cur, rfl, hb, hgg, hc, hcap, hs, ht⟩
    · rw [made_length] at h0; omega
    · rw [made_length] at *
      refine ⟨g, cap, rfl, ⟨cur.toList, by simpa using hgg, by rw [made_length]; simp; omega, ?_⟩, hb⟩
      rw [made_length]; simpa using ht
  obtain ⟨b0, c0, rfl, q0, g0⟩ := key _ _ h.o0
  obtain ⟨b1, c1, rfl, q1, g1⟩ := key _ _ h.o1
  obtain ⟨b2, c2, rfl, q2, g2⟩ := key _ _ h.o2
  refine ⟨b0, b1, b2, c0, c1, c2, ⟨by simpa using h.d, by simpa [made] using q0, by simpa [made] using q1, by simpa [made] using q2, ?_, ?_, ?_⟩, g0, g1, g2⟩
  · intro e; exact h.a01 b0 rfl (by simp [Value.ownBlock, e])
  · intro e; exact h.a02 b0 rfl (by simp [Value.ownBlock, e])
  · intro e; exact h.a12 b1 rfl (by simp [Value.ownBlock, e])

def RefFeedPost (r b0 b1 b2 c0 c1 c2 : Nat) (l : List One) (now lba n : Int) (w : World) (e : Ending) (w' : World) : Prop :=
  e = .returned (.int .i64 (feedAt l lba)) ∧ IsRef w' r b0 b1 b2 c0 c1 c2 (feedL l now lba n) (now + 1) ∧ Fr (fun k => k = r ∨ k = b0 ∨ k = b1 ∨ k = b2) w w'

set_option maxHeartbeats 1000000 in
set_option maxRecDepth 100000 in
theorem reffeed_ok (r b0 b1 b2 c0 c1 c2 : Nat) (l : List One) (now lba n : Int) (w : World) (hd : IsRef w r b0 b1 b2 c0 c1 c2 l now) (hl : 1 ≤ l.length ∧ l.length ≤ 16) (hnow : 0 ≤ now ∧ now ≤ 100000)
    (hlong : LongOk l now) (h : Good lba n) :
    Calls Try.prog 14 #[.pointer (some ⟨r, 0, none⟩), .int .i64 lba, .int .i64 n] w (RefFeedPost r b0 b1 b2 c0 c1 c2 l now lba n w) := by
  have HL := Aside.mk hlong
  obtain ⟨h0, h1, h2, h3⟩ := h
  obtain ⟨l1, l16⟩ := hl
  have HD := Aside.mk hd
  have hc0 := cell_of_row _ _ 0 _ _ _ hd.d
  have hc1 := cell_of_row _ _ 1 _ _ _ hd.d
  clear hlong hd
  go_enter Try.func14, Try.ntmps14
  go_wp2_with fail
  go_loopw [7, 8] (fun v7 v8 wr => ∃ k : Nat, k ≤ l.length ∧ v8 = .int .i64 k ∧ v7 = .int .i64 (bestTo l lba k) ∧ Aside (∃ m, wr = w.drewN m)) (fun _ v _ => l.length - (intOf v).toNat)
  case atStart => exact ⟨0, Nat.zero_le _, rfl, rfl, ⟨0, rfl⟩⟩
  case round =>
    obtain ⟨k, hk, rfl, rfl, HK⟩ := hrel
    obtain ⟨m, rfl⟩ := HK.out
    clear HK
    by_cases hlt : k < l.length
    · have he := HD.out.r0.cell k (by simpa using hlt)
      have hu := HD.out.r1.cell k (by simpa using hlt)
      rw [map_getD _ _ _ hlt] at he hu
      have bl := best_lt l lba k
      have hbs : bestTo l lba (k + 1) = if (l.getD k z3).1 = lba ∧ (bestTo l lba k < 0 ∨ (l.getD (bestTo l lba k).toNat z3).2.1 < (l.getD k z3).2.1) then (k : Int) else bestTo l lba k := rfl
      have hbc : 0 ≤ bestTo l lba k → w.cell? ⟨b1, (bestTo l lba k).toNat, none⟩ = some (.int .i64 (l.getD (bestTo l lba k).toNat z3).2.1) := by
        intro hb
        have := HD.out.r1.cell (bestTo l lba k).toNat (by simp; omega)
        rw [map_getD _ _ _ (by omega)] at this
        exact this
      generalize (l.getD (bestTo l lba k).toNat z3).2.1 = ub at *
      generalize bestTo l lba k = b at *
      generalize (l.getD k z3).1 = e at *
      generalize (l.getD k z3).2.1 = u at *
      have hbcase : ((e == lba) = false ∧ bestTo l lba (k + 1) = b) ∨ ((e == lba) = true ∧ decide (b < 0) = true ∧ bestTo l lba (k + 1) = k) ∨ ((e == lba) = true ∧ decide (b < 0) = false ∧ 0 ≤ b ∧ decide (ub < u) = true ∧ bestTo l lba (k + 1) = k) ∨ ((e == lba) = true ∧ decide (b < 0) = false ∧ 0 ≤ b ∧ decide (ub < u) = false ∧ bestTo l lba (k + 1) = b) := by
        by_cases he : e = lba
        · by_cases hb0 : b < 0
          · rw [if_pos ⟨he, .inl hb0⟩] at hbs
            exact .inr (.inl ⟨beq_iff_eq.2 he, decide_eq_true hb0, hbs⟩)
          · by_cases hub : ub < u
            · rw [if_pos ⟨he, .inr hub⟩] at hbs
              exact .inr (.inr (.inl ⟨beq_iff_eq.2 he, decide_eq_false hb0, by omega, decide_eq_true hub, hbs⟩))
            · rw [if_neg (by rintro ⟨_, h | h⟩ <;> contradiction)] at hbs
              exact .inr (.inr (.inr ⟨beq_iff_eq.2 he, decide_eq_false hb0, by omega, decide_eq_false hub, hbs⟩))
        · rw [if_neg (fun h => he h.1)] at hbs
          exact .inl ⟨beq_eq_false_iff_ne.2 he, hbs⟩
      clear hbs
      rcases hbcase with ⟨heb, hbs⟩ | ⟨heb, hbb, hbs⟩ | ⟨heb, hbb, hb0, hubb, hbs⟩ | ⟨heb, hbb, hb0, hubb, hbs⟩
      all_goals
        try replace hbc := hbc hb0
        try (obtain ⟨b, rfl⟩ := Int.eq_ofNat_of_zero_le hb0)
        try rw [Int.toNat_natCast] at hbc
        have HBS := Lib.hid hbs
        clear hbs
        go_wp2_with fail
        go_quiet (fail)
        go_wp2_with fail
        go_roundw
        case rel => exact ⟨k + 1, by omega, by go_num, by rw [HBS.out], ⟨_, rfl⟩⟩
        case measure => simp [intOf]; omega
    · have hkl : k = l.length := by omega
      subst hkl
      obtain ⟨n0, n1, n2⟩ := HD.out.ne
      obtain ⟨q0, q1, q2⟩ := HD.out.lt.2
      have n01 := HD.out.n01
      have n02 := HD.out.n02
      have n12 := HD.out.n12
      have n0' := n0.symm
      have n1' := n1.symm
      have n2' := n2.symm
      have n01' := n01.symm
      have n02' := n02.symm
      have n12' := n12.symm
      have hc2 := cell_of_row _ _ 2 _ _ _ HD.out.d
      have hc3 := cell_of_row _ _ 3 _ _ _ HD.out.d
      have hf3 := frozen_block HD.out.d 3
      have bl := best_lt l lba l.length
      have hat := feedAt_lt l lba l1
      have he := HD.out.r0.cell (feedAt l lba) (by simpa using hat)
      have hu := HD.out.r1.cell (feedAt l lba) (by simpa using hat)
      have hg := HD.out.r2.cell (feedAt l lba) (by simpa using hat)
      rw [map_getD _ _ _ hat] at he hu hg
      have hfe := HD.out.r0.frozen (feedAt l lba)
      have hfu := HD.out.r1.frozen (feedAt l lba)
      have hfg := HD.out.r2.frozen (feedAt l lba)
      have hlg := HL.out (feedAt l lba) hat
      by_cases hb : bestTo l lba l.length < 0
      · have hbb : decide (bestTo l lba l.length < 0) = true := decide_eq_true hb
        have hfe' : feedAt l lba = oldTo l l.length := if_pos hb
        have hfl : feedL l now lba n = l.set (feedAt l lba) (lba + n, now + 1, 1) := by unfold feedL; rw [if_pos hb]
        have HFE := Lib.hid hfe'
        have HFL := Lib.hid hfl
        clear hfe' hfl hb
        generalize bestTo l lba l.length = b at *
        generalize hfi : feedAt l lba = i at *
        have HFI := Lib.hid hfi
        clear hfi
        go_wp2_with fail
        have HD7 := Aside.mk (HD.out.drewN m).tick
        have HF7 : Aside (Fr (fun k => k = r ∨ k = b0 ∨ k = b1 ∨ k = b2) w ((w.drewN m).setCell ⟨r, 3, none⟩ (.int .i64 (now + 1)))) := ⟨((Fr.refl _ w).drewN m).set (.inl (.inl rfl)) _⟩
        generalize (w.drewN m).setCell ⟨r, 3, none⟩ (.int .i64 (now + 1)) = W at *
        clear hc0 hc1 hc2 hc3 hf3 hfe hfu hfg he hu hg
        have hc0 := cell_of_row _ _ 0 _ _ _ HD7.out.d
        have hc1 := cell_of_row _ _ 1 _ _ _ HD7.out.d
        have hc2 := cell_of_row _ _ 2 _ _ _ HD7.out.d
        have hc3 := cell_of_row _ _ 3 _ _ _ HD7.out.d
        go_loopw [7, 9] (fun v7 v9 wr => ∃ k : Nat, 1 ≤ k ∧ k ≤ l.length ∧ v9 = .int .i64 k ∧ v7 = .int .i64 (oldTo l k) ∧ Aside (∃ m, wr = W.drewN m)) (fun _ v _ => l.length - (intOf v).toNat)
        case atStart => exact ⟨1, by omega, l1, rfl, by simp [oldTo], ⟨0, rfl⟩⟩
        case round =>
          obtain ⟨k, hk1, hk, rfl, rfl, HK⟩ := hrel
          obtain ⟨m2, rfl⟩ := HK.out
          clear HK
          have ol := old_lt l k
          by_cases hlt : k < l.length
          · have hu := HD7.out.r1.cell k (by simpa using hlt)
            have ho := HD7.out.r1.cell (oldTo l k) (by simp; omega)
            rw [map_getD _ _ _ hlt] at hu
            rw [map_getD _ _ _ (by omega)] at ho
            have hos : oldTo l (k + 1) = if (l.getD k z3).2.1 < (l.getD (oldTo l k) z3).2.1 then k else oldTo l k := rfl
            generalize (l.getD (oldTo l k) z3).2.1 = uo at *
            generalize oldTo l k = o at *
            generalize (l.getD k z3).2.1 = u at *
            have hocase : (decide (u < uo) = true ∧ oldTo l (k + 1) = k) ∨ (decide (u < uo) = false ∧ oldTo l (k + 1) = o) := by
              by_cases hu : u < uo
              · rw [if_pos hu] at hos; exact .inl ⟨decide_eq_true hu, hos⟩
              · rw [if_neg hu] at hos; exact .inr ⟨decide_eq_false hu, hos⟩
            clear hos
            rcases hocase with ⟨huo, hos⟩ | ⟨huo, hos⟩
            all_goals
              have HOS := Lib.hid hos
              clear hos
              go_wp2_with fail
              go_quiet (fail)
              go_wp2_with fail
              go_roundw
              case rel => exact ⟨k + 1, by omega, by omega, by go_num, by rw [HOS.out], ⟨_, rfl⟩⟩
              case measure => simp [intOf]; omega
          · have hkl : k = l.length := by omega
            subst hkl
            have hio : i = oldTo l l.length := HFE.out
            rw [← hio]
            have HIO := Lib.hid hio
            clear hio ol
            have hfe := HD7.out.r0.frozen i
            have hfu := HD7.out.r1.frozen i
            have hfg := HD7.out.r2.frozen i
            have he := HD7.out.r0.cell i (by simpa using hat)
            have hu := HD7.out.r1.cell i (by simpa using hat)
            have hg := HD7.out.r2.cell i (by simpa using hat)
            rw [map_getD _ _ _ hat] at he hu hg
            generalize (l.getD i z3).1 = e at *
            generalize (l.getD i z3).2.1 = u at *
            generalize (l.getD i z3).2.2 = q at *
            go_wp2_with fail
            go_region
            go_wp2_with fail
            go_ret
            refine ⟨?_, ?_, ?_⟩
            · rw [HFI.out]; rfl
            · rw [HFL.out]
              exact ((HD7.out.drewN m2).anew i (lba + n) (now + 1) 1 0).drewN 1
            · exact ((((((HF7.out.drewN m2).set (.inl (.inr (.inr (.inr rfl)))) _).set (.inl (.inr (.inr (.inr rfl)))) _).set (.inl (.inr (.inr (.inl rfl)))) _).set (.inl (.inr (.inl rfl))) _).drew)
      · have hbb : decide (bestTo l lba l.length < 0) = false := decide_eq_false hb
        have hfe' : feedAt l lba = (bestTo l lba l.length).toNat := if_neg hb
        have hfl : feedL l now lba n = l.set (feedAt l lba) (lba + n, now + 1, (l.getD (feedAt l lba) z3).2.2 + 1) := by unfold feedL; rw [if_neg hb]
        have HFL := Lib.hid hfl
        have hbe : bestTo l lba l.length = (feedAt l lba : Int) := by omega
        clear hfl hb hfe'
        generalize bestTo l lba l.length = b at *
        subst hbe
        generalize hfi : feedAt l lba = i at *
        have HFI := Lib.hid hfi
        clear hfi
        generalize (l.getD i z3).1 = e at *
        generalize (l.getD i z3).2.1 = u at *
        generalize (l.getD i z3).2.2 = q at *
        go_wp2_with fail
        go_region
        go_wp2_with fail
        go_ret
        refine ⟨?_, ?_, ?_⟩
        · rw [HFI.out]; rfl
        · rw [HFL.out]
          exact ((HD.out.fed i (lba + n) (now + 1) (q + 1)).drewN (m + 1))
        · exact ((((((Fr.refl _ w).set (.inl (.inl rfl)) _).set (.inl (.inr (.inr (.inr rfl)))) _).set (.inl (.inr (.inr (.inl rfl)))) _).set (.inl (.inr (.inl rfl))) _).drewN (m + 1))
end Go.Proofs.Ytojgjjgfbbejmaa
