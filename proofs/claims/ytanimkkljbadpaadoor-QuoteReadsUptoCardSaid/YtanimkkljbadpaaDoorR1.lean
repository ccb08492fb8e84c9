/- The reference's rune is the plain one: the printed functions. -/
import Derived.Test.YtanimkkljbadpaaDoorW9
import Derived.Test.YtanimkkljbadpaaDoorPQuoteRunesx2
import Derived.Test.YtanimkkljbadpaaDoorPQuoteRunesx3
set_option linter.unusedVariables false
set_option linter.unusedSimpArgs false
namespace Go.Proofs.YtanimkkljbadpaaDoor
namespace RefA
open Go.RowKit Go.Proofs.YtanimkkljbadpaaDoorW.PrintWords Q PQuoteRunes

theorem wr (z : Int) (h : -4611686018427387904 ≤ z ∧ z ≤ 4611686018427387904) : wrap64 z = z := by unfold wrap64; omega
theorem bt_BA (l : Bs) (i : Nat) (h : i < l.length) : bt (BA l) (i : Int) = ((l[i]).toNat : Int) := by
  unfold bt
  have h2 : ((i : Int)).toNat < (BA l).size := by rw [BA_size]; simpa using h
  rw [dif_pos h2]
  congr 1
theorem l0_step (k : Nat) (x : ByteArray) (n v i : Int) (hi : i < n) (hn : n ≤ 4) (h0 : 0 ≤ i) (hs : i < x.size) (hv : 0 ≤ v ∧ v ≤ 100000000) :
    ferruleref5_Rune.l0 (k + 1) x n v i = if bt x i < 128 then some (0, 0) else if bt x i > 191 then some (0, 0) else ferruleref5_Rune.l0 k x n (64 * v + bt x i - 128) (i + 1) := by
  have hb := bt_range x i
  rw [ferruleref5_Rune.l0, if_pos hi, if_pos h0, if_pos hs, wr (bt x i) (by omega), wr (64 * v) (by omega), wr (64 * v + bt x i) (by omega), wr (64 * v + bt x i - 128) (by omega), wr (i + 1) (by omega)]
theorem l0_end (k : Nat) (x : ByteArray) (n v : Int) : ferruleref5_Rune.l0 (k + 1) x n v n = if (n = 3 ∧ (v < 2048 ∨ (55296 ≤ v ∧ v < 57344))) ∨ (n = 4 ∧ (v < 65536 ∨ 1114111 < v)) then some (0, 0) else some (v, n) := by
  rw [ferruleref5_Rune.l0, if_neg (by omega)]
  repeat' split
  all_goals first | rfl | omega
theorem v2_int (b0 b1 : UInt8) (h : 194 ≤ b0.toNat ∧ b0.toNat < 224) (h1 : 128 ≤ b1.toNat ∧ b1.toNat ≤ 191) : ((v2 b0.toNat b1 : Nat) : Int) = 64 * ((b0.toNat : Int) - 192) + (b1.toNat : Int) - 128 := by
  unfold v2; generalize b0.toNat = x at *; generalize b1.toNat = y at *; omega
theorem v3_int (b0 b1 b2 : UInt8) (h : 224 ≤ b0.toNat ∧ b0.toNat < 240) (h1 : 128 ≤ b1.toNat ∧ b1.toNat ≤ 191) (h2 : 128 ≤ b2.toNat ∧ b2.toNat ≤ 191) : ((v3 b0.toNat b1 b2 : Nat) : Int) = 64 * (64 * ((b0.toNat : Int) - 224) + (b1.toNat : Int) - 128) + (b2.toNat : Int) - 128 := by
  unfold v3; generalize b0.toNat = x at *; generalize b1.toNat = y at *; generalize b2.toNat = z at *; omega
theorem v4_int (b0 b1 b2 b3 : UInt8) (h : 240 ≤ b0.toNat ∧ b0.toNat < 245) (h1 : 128 ≤ b1.toNat ∧ b1.toNat ≤ 191) (h2 : 128 ≤ b2.toNat ∧ b2.toNat ≤ 191) (h3 : 128 ≤ b3.toNat ∧ b3.toNat ≤ 191) : ((v4 b0.toNat b1 b2 b3 : Nat) : Int) = 64 * (64 * (64 * ((b0.toNat : Int) - 240) + (b1.toNat : Int) - 128) + (b2.toNat : Int) - 128) + (b3.toNat : Int) - 128 := by
  unfold v4; generalize b0.toNat = x at *; generalize b1.toNat = y at *; generalize b2.toNat = z at *; generalize b3.toNat = u at *; omega
theorem rune_dec (l : Bs) : ferruleref5_Rune.f 10 (BA l) = some (((dec l).1 : Int), ((dec l).2 : Int)) := by
  unfold ferruleref5_Rune.f
  rw [BA_size]
  match l with
  | [] => rfl
  | b0 :: t =>
    have hb0 : bt (BA (b0 :: t)) 0 = (b0.toNat : Int) := bt_BA (b0 :: t) 0 (by simp)
    have h256 := b0.toNat_lt
    rw [if_neg (by simp only [List.length_cons]; omega), if_pos (by simp only [List.length_cons]; omega), hb0, wr (b0.toNat) (by omega)]
    simp only [dec]
    by_cases c1 : b0.toNat < 128
    · rw [if_pos (by omega), if_pos c1]; rfl
    rw [if_neg (by omega), if_neg c1]
    have hj2 : ∀ (k : Nat) (n v : Int), ferruleref5_Rune.j2 (k + 1) (BA (b0 :: t)) n v = if ((b0 :: t).length : Int) < n then some (0, 0) else ferruleref5_Rune.l0 k (BA (b0 :: t)) n v 1 := by
      intro k n v; rw [ferruleref5_Rune.j2, BA_size]
    by_cases c2 : 194 ≤ b0.toNat ∧ b0.toNat < 224
    · rw [if_pos (by omega), if_pos c2, decide_eq_true (by omega)]
      rw [show (10 : Nat) = 9 + 1 from rfl, ferruleref5_Rune.j0, if_pos rfl, show (9 : Nat) = 8 + 1 from rfl, hj2, wr _ (by omega)]
      match t with
      | [] => rw [if_pos (by simp)]; rfl
      | b1 :: t =>
        have hb1 : bt (BA (b0 :: b1 :: t)) 1 = (b1.toNat : Int) := bt_BA (b0 :: b1 :: t) 1 (by simp)
        rw [if_neg (by simp; omega), show (8 : Nat) = 7 + 1 from rfl, l0_step _ _ _ _ _ (by omega) (by omega) (by omega) (by rw [BA_size]; simp; omega) (by omega), hb1]
        by_cases k1 : isCont b1 = true
        · have q1 := (isCont_iff b1).1 k1
          rw [if_neg (by omega), if_neg (by omega)]
          simp only [k1, if_true]
          rw [show (7 : Nat) = 6 + 1 from rfl, show ((1 : Int) + 1) = 2 from rfl, l0_end, if_neg (by omega)]
          rw [v2_int b0 b1 c2 q1]
          rfl
        · have q1 : ¬ (128 ≤ b1.toNat ∧ b1.toNat ≤ 191) := fun h => k1 ((isCont_iff b1).2 h)
          simp only [k1]
          split
          · rfl
          · rw [if_pos (by omega)]; rfl
    by_cases c3 : 224 ≤ b0.toNat ∧ b0.toNat < 240
    · rw [if_pos (by omega), if_neg c2, if_pos c3, decide_eq_false (by omega)]
      rw [show (10 : Nat) = 9 + 1 from rfl, ferruleref5_Rune.j0, if_neg (by decide), if_pos (by omega), decide_eq_true (by omega), show (9 : Nat) = 8 + 1 from rfl, ferruleref5_Rune.j1, if_pos rfl, show (8 : Nat) = 7 + 1 from rfl, hj2, wr _ (by omega)]
      match t with
      | [] => rw [if_pos (by simp)]; rfl
      | [b1] => rw [if_pos (by simp)]; rfl
      | b1 :: b2 :: t =>
        have hb1 : bt (BA (b0 :: b1 :: b2 :: t)) 1 = (b1.toNat : Int) := bt_BA (b0 :: b1 :: b2 :: t) 1 (by simp)
        have hb2 : bt (BA (b0 :: b1 :: b2 :: t)) 2 = (b2.toNat : Int) := bt_BA (b0 :: b1 :: b2 :: t) 2 (by simp)
        rw [if_neg (by simp; omega), show (7 : Nat) = 6 + 1 from rfl, l0_step _ _ _ _ _ (by omega) (by omega) (by omega) (by rw [BA_size]; simp; omega) (by omega), hb1]
        by_cases k1 : isCont b1 = true
        · have q1 := (isCont_iff b1).1 k1
          rw [if_neg (by omega), if_neg (by omega), show (6 : Nat) = 5 + 1 from rfl, show ((1 : Int) + 1) = 2 from rfl, l0_step _ _ _ _ _ (by omega) (by omega) (by omega) (by rw [BA_size]; simp; omega) (by omega), hb2]
          by_cases k2 : isCont b2 = true
          · have q2 := (isCont_iff b2).1 k2
            rw [if_neg (by omega), if_neg (by omega)]
            simp only [k1, k2, Bool.and_self, if_true]
            rw [show (5 : Nat) = 4 + 1 from rfl, show ((2 : Int) + 1) = 3 from rfl, l0_end]
            have hv : ((v3 b0.toNat b1 b2 : Nat) : Int) = 64 * (64 * ((b0.toNat : Int) - 224) + (b1.toNat : Int) - 128) + (b2.toNat : Int) - 128 := v3_int b0 b1 b2 c3 q1 q2
            rw [← hv]
            by_cases hh : v3 b0.toNat b1 b2 < 2048 ∨ (55296 ≤ v3 b0.toNat b1 b2 ∧ v3 b0.toNat b1 b2 < 57344)
            · rw [if_pos (by omega), if_pos hh]; rfl
            · rw [if_neg (by omega), if_neg hh]; rfl
          · have q2 : ¬ (128 ≤ b2.toNat ∧ b2.toNat ≤ 191) := fun h => k2 ((isCont_iff b2).2 h)
            simp only [k1, k2, Bool.and_false]
            split
            · rfl
            · rw [if_pos (by omega)]; rfl
        · have q1 : ¬ (128 ≤ b1.toNat ∧ b1.toNat ≤ 191) := fun h => k1 ((isCont_iff b1).2 h)
          simp only [k1, Bool.false_and]
          split
          · rfl
          · rw [if_pos (by omega)]; rfl
    by_cases c4 : 240 ≤ b0.toNat ∧ b0.toNat < 245
    · rw [if_pos (by omega), if_neg c2, if_neg c3, if_pos c4, decide_eq_false (by omega)]
      rw [show (10 : Nat) = 9 + 1 from rfl, ferruleref5_Rune.j0, if_neg (by decide), if_pos (by omega), decide_eq_false (by omega), show (9 : Nat) = 8 + 1 from rfl, ferruleref5_Rune.j1, if_neg (by decide), if_pos (by omega), if_pos (by omega), show (8 : Nat) = 7 + 1 from rfl, hj2, wr _ (by omega)]
      match t with
      | [] => rw [if_pos (by simp)]; rfl
      | [b1] => rw [if_pos (by simp)]; rfl
      | [b1, b2] => rw [if_pos (by simp)]; rfl
      | b1 :: b2 :: b3 :: t =>
        have hb1 : bt (BA (b0 :: b1 :: b2 :: b3 :: t)) 1 = (b1.toNat : Int) := bt_BA (b0 :: b1 :: b2 :: b3 :: t) 1 (by simp)
        have hb2 : bt (BA (b0 :: b1 :: b2 :: b3 :: t)) 2 = (b2.toNat : Int) := bt_BA (b0 :: b1 :: b2 :: b3 :: t) 2 (by simp)
        have hb3 : bt (BA (b0 :: b1 :: b2 :: b3 :: t)) 3 = (b3.toNat : Int) := bt_BA (b0 :: b1 :: b2 :: b3 :: t) 3 (by simp)
        rw [if_neg (by simp; omega), show (7 : Nat) = 6 + 1 from rfl, l0_step _ _ _ _ _ (by omega) (by omega) (by omega) (by rw [BA_size]; simp; omega) (by omega), hb1]
        by_cases k1 : isCont b1 = true
        · have q1 := (isCont_iff b1).1 k1
          rw [if_neg (by omega), if_neg (by omega), show (6 : Nat) = 5 + 1 from rfl, show ((1 : Int) + 1) = 2 from rfl, l0_step _ _ _ _ _ (by omega) (by omega) (by omega) (by rw [BA_size]; simp; omega) (by omega), hb2]
          by_cases k2 : isCont b2 = true
          · have q2 := (isCont_iff b2).1 k2
            rw [if_neg (by omega), if_neg (by omega), show (5 : Nat) = 4 + 1 from rfl, show ((2 : Int) + 1) = 3 from rfl, l0_step _ _ _ _ _ (by omega) (by omega) (by omega) (by rw [BA_size]; simp; omega) (by omega), hb3]
            by_cases k3 : isCont b3 = true
            · have q3 := (isCont_iff b3).1 k3
              rw [if_neg (by omega), if_neg (by omega)]
              simp only [k1, k2, k3, Bool.and_self, if_true]
              rw [show (4 : Nat) = 3 + 1 from rfl, show ((3 : Int) + 1) = 4 from rfl, l0_end]
              have hv : ((v4 b0.toNat b1 b2 b3 : Nat) : Int) = 64 * (64 * (64 * ((b0.toNat : Int) - 240) + (b1.toNat : Int) - 128) + (b2.toNat : Int) - 128) + (b3.toNat : Int) - 128 := v4_int b0 b1 b2 b3 c4 q1 q2 q3
              rw [← hv]
              by_cases hh : v4 b0.toNat b1 b2 b3 < 65536 ∨ 1114111 < v4 b0.toNat b1 b2 b3
              · rw [if_pos (by omega), if_pos hh]; rfl
              · rw [if_neg (by omega), if_neg hh]; rfl
            · have q3 : ¬ (128 ≤ b3.toNat ∧ b3.toNat ≤ 191) := fun h => k3 ((isCont_iff b3).2 h)
              simp only [k1, k2, k3, Bool.and_false]
              split
              · rfl
              · rw [if_pos (by omega)]; rfl
          · have q2 : ¬ (128 ≤ b2.toNat ∧ b2.toNat ≤ 191) := fun h => k2 ((isCont_iff b2).2 h)
            simp only [k1, k2, Bool.and_false, Bool.false_and]
            split
            · rfl
            · rw [if_pos (by omega)]; rfl
        · have q1 : ¬ (128 ≤ b1.toNat ∧ b1.toNat ≤ 191) := fun h => k1 ((isCont_iff b1).2 h)
          simp only [k1, Bool.false_and]
          split
          · rfl
          · rw [if_pos (by omega)]; rfl
    rw [if_neg c2, if_neg c3, if_neg c4]
    split
    · rw [decide_eq_false (by omega), show (10 : Nat) = 9 + 1 from rfl, ferruleref5_Rune.j0, if_neg (by decide)]
      split
      · rw [decide_eq_false (by omega), show (9 : Nat) = 8 + 1 from rfl, ferruleref5_Rune.j1, if_neg (by decide), if_pos (by omega), if_neg (by omega)]; rfl
      · omega
    · rw [show (10 : Nat) = 9 + 1 from rfl, ferruleref5_Rune.j0, if_neg (by decide)]
      rw [if_neg (by omega), show (9 : Nat) = 8 + 1 from rfl, ferruleref5_Rune.j1, if_neg (by decide), if_neg (by omega)]; rfl
theorem rune_more (l : Bs) (k : Nat) (hk : 10 ≤ k) : ferruleref5_Rune.f k (BA l) = some (((dec l).1 : Int), ((dec l).2 : Int)) := by
  induction k with
  | zero => omega
  | succ k ih =>
    by_cases h : 10 ≤ k
    · exact ferruleref5_Rune.mono (BA l) k _ (ih h)
    · obtain rfl : k = 9 := by omega
      exact rune_dec l
theorem BA_drop (l : Bs) (n : Nat) (h : n ≤ l.length) : (BA l).extract n (BA l).size = BA (l.drop n) := by
  rw [← BA_LS ((BA l).extract n (BA l).size), LS_extract _ _ (by rw [BA_size]; exact h), LS_BA]
theorem BA_size_drop (l : Bs) (n : Nat) (h : n ≤ l.length) : (BA l).extract n l.length = BA (l.drop n) := by
  have := BA_drop l n h
  rwa [BA_size] at this
theorem runes_l0 : ∀ (f : Nat) (l : Bs) (a b : Int), l.length < f → 0 ≤ a → 0 ≤ b → a + l.length ≤ 4611686018427387904 → b + l.length ≤ 4611686018427387904 →
    ferruleref5_Runes.l0 (f + 10) (BA l) a b = some (a + goods (toks l), b + bads (toks l)) := by
  intro f
  induction f with
  | zero => intro l a b h; omega
  | succ f ih =>
    intro l a b hf ha hb ha2 hb2
    rw [show f + 1 + 10 = (f + 10) + 1 by omega, ferruleref5_Runes.l0, BA_size]
    by_cases hl : l = []
    · subst hl
      rw [if_neg (by simp)]
      simp [toks_nil, goods, bads]
    · have hpos : 0 < l.length := by cases l with | nil => exact absurd rfl hl | cons a b => simp
      rw [if_pos (by omega), rune_more l (f + 10) (by omega)]
      have htk := tokLen_le hl
      have htp := tokLen_pos l
      have hg1 : goods (toks l) = goods [l.take (tokLen l)] + goods (toks (l.drop (tokLen l))) := (congrArg goods (toks_cons hl)).trans (goods_append [_] _)
      have hb1 : bads (toks l) = bads [l.take (tokLen l)] + bads (toks (l.drop (tokLen l))) := (congrArg bads (toks_cons hl)).trans (bads_append [_] _)
      show (if ((dec l).2 : Int) = 0 then _ else _) = _
      by_cases h0 : (dec l).2 = 0
      · have ht : tokLen l = 1 := by unfold tokLen; rw [if_pos h0]
        have hgd : good (l.take (tokLen l)) = false := by
          rcases tok_form hl with ⟨e, e1, e2⟩ | ⟨e, e1, e2⟩
          · exact absurd h0 e
          · simp [good, e1, e]
        have hg2 : goods [l.take (tokLen l)] = 0 := by simp [goods, hgd]
        have hb2' : bads [l.take (tokLen l)] = 1 := by simp [bads, hgd]
        rw [if_pos (by omega), if_pos (by omega), BA_size_drop l 1 (by omega), wr (b + 1) (by omega), ih _ _ _ (by simp; omega) (by omega) (by omega) (by simp; omega) (by simp; omega)]
        rw [ht] at hg1 hb1 hg2 hb2'
        rw [hg1, hb1, hg2, hb2']
        congr 2 <;> omega
      · have ht : tokLen l = (dec l).2 := by unfold tokLen; rw [if_neg h0]
        have hgd : good (l.take (tokLen l)) = true := by
          rcases tok_form hl with ⟨e, e1, e2⟩ | ⟨e, e1, e2⟩
          · simp [good, e1, e]
          · exact absurd e h0
        have hg2 : goods [l.take (tokLen l)] = 1 := by simp [goods, hgd]
        have hb2' : bads [l.take (tokLen l)] = 0 := by simp [bads, hgd]
        rw [if_neg (by omega), if_pos (by omega), if_pos (by omega)]
        show ferruleref5_Runes.l0 _ ((BA l).extract ((dec l).2 : Int).toNat l.length) _ _ = _
        rw [Int.toNat_natCast, BA_size_drop l _ (by omega), wr (a + 1) (by omega), ih _ _ _ (by simp; omega) (by omega) (by omega) (by simp; omega) (by simp; omega)]
        rw [ht] at hg1 hb1 hg2 hb2'
        rw [hg1, hb1, hg2, hb2']
        congr 2 <;> omega
theorem cut_l0 (L : Bs) (n : Int) (hn1 : -9223372036854775808 ≤ n) (hn2 : n ≤ 9223372036854775807) (hL : L.length ≤ 140737488355328) : ∀ (f : Nat) (ps qs : List Bs), toks L = ps ++ qs → L.length - ps.flatten.length < f → (ps.flatten.length = 0 ∨ (ps.flatten.length : Int) ≤ n) →
    ferruleref5_Cut.l0 (f + 10) (BA L) n (ps.flatten.length : Int) = some ((BA L).extract 0 (cutT qs ps.flatten.length n)) := by
  intro f
  induction f with
  | zero => intro ps qs h hf; omega
  | succ f ih =>
    intro ps qs hpq hf hpn
    have hpl := (prefix_le hpq).2
    rw [show f + 1 + 10 = (f + 10) + 1 by omega, ferruleref5_Cut.l0, BA_size]
    by_cases hp : ps.flatten.length < L.length
    · obtain ⟨u, qs', rfl, hu, hul, htok, hgood, hnext, hfl, hle⟩ := at_pos hpq hp
      have hul1 : u.length ≠ 0 := by rw [← hul]; have := tokLen_pos (L.drop ps.flatten.length); omega
      have hw : wrap64 (n - (ps.flatten.length : Int)) = n - (ps.flatten.length : Int) := by
        unfold wrap64
        rcases hpn with h | h
        · rw [h]; omega
        · omega
      rw [if_pos (by omega), if_pos (by omega), if_pos (by omega), Int.toNat_natCast, BA_size_drop L _ (by omega), rune_more _ (f + 10) (by omega), hw]
      have hstep := fun (h : ¬ n < (ps.flatten.length : Int) + u.length) => ih (ps ++ [u]) qs' hnext (by rw [← hfl]; omega) (.inr (by rw [← hfl]; omega))
      rw [← hfl] at hstep
      show (if ((dec (L.drop ps.flatten.length)).2 : Int) = 0 then _ else _) = _
      have hd : ((dec (L.drop ps.flatten.length)).2 = 0 → u.length = 1) ∧ ((dec (L.drop ps.flatten.length)).2 ≠ 0 → (dec (L.drop ps.flatten.length)).2 = u.length) := by
        rw [← hul]; unfold tokLen
        exact ⟨fun h => by rw [if_pos h], fun h => by rw [if_neg h]⟩
      have hcut : cutT (u :: qs') ps.flatten.length n = if n < (ps.flatten.length : Int) + u.length then ps.flatten.length else cutT qs' (ps.flatten.length + u.length) n := rfl
      rw [hcut]
      clear hu hul htok hgood hnext hfl hpq ih hcut
      generalize (dec (L.drop ps.flatten.length)).2 = d at *
      generalize ps.flatten.length = p at *
      generalize hm : u.length = m at *
      by_cases h0 : d = 0
      · obtain rfl : m = 1 := hd.1 h0
        rw [if_pos (by omega)]
        by_cases hc : n < (p : Int) + (1 : Nat)
        · rw [if_pos (by omega), if_pos hc]
        · rw [if_neg (by omega), if_neg hc, wr _ (by omega)]
          exact hstep hc
      · obtain rfl : d = m := hd.2 h0
        rw [if_neg (by omega)]
        show (if (d : Int) > n - p then _ else ferruleref5_Cut.l0 (f + 10) (BA L) n (wrap64 ((p : Int) + d))) = _
        by_cases hc : n < (p : Int) + d
        · rw [if_pos (by omega), if_pos hc]
        · rw [if_neg (by omega), if_neg hc, wr _ (by omega)]
          exact hstep hc
    · obtain ⟨rfl, _⟩ := at_end hpq hp
      rw [if_neg (by omega), if_pos (by omega), if_pos (by omega), Int.toNat_natCast]
      rfl
theorem drawn_below {w w' : World} (h : Drawn0 w w') : Below w.heap.size w w' := by
  obtain ⟨n, rfl⟩ := h
  exact ⟨rfl, rfl, rfl, Nat.le_refl _, fun _ _ => rfl⟩
theorem refRunes_any (w : World) (s : ByteArray) (a b : Int) (hs : s.size ≤ 140737488355328) (ha : (goods (toks (LS s)) : Int) = a) (hb : (bads (toks (LS s)) : Int) = b) : ∀ W, Below w.heap.size w W → Calls Tryd.prog 14 #[.string s] W fun e w' => e = .returned (.tuple #[.int .i64 a, .int .i64 b]) ∧ Below w.heap.size w w' := by
  intro W hW
  have hl := LS_length s
  have h : ferruleref5_Runes.f ((LS s).length + 1 + 10) (BA (LS s)) = some (a, b) := by
    unfold ferruleref5_Runes.f
    rw [runes_l0 _ (LS s) 0 0 (by omega) (by omega) (by omega) (by omega) (by omega), ha, hb, Int.zero_add, Int.zero_add]
  rw [BA_LS] at h
  refine (ferruleref5_Runes.calls _ s a b W h).mono ?_
  rintro e w' ⟨rfl, hd⟩
  exact ⟨rfl, step_any hW (drawn_below hd)⟩
theorem refCut_any (w : World) (s c : ByteArray) (n : Int) (hn1 : -9223372036854775808 ≤ n) (hn2 : n ≤ 9223372036854775807) (hs : s.size ≤ 140737488355328) (hc : LS c = cut (LS s) n) : ∀ W, Below w.heap.size w W → Calls Tryd.prog 17 #[.string s, .int .i64 n] W fun e w' => e = .returned (.string c) ∧ Below w.heap.size w w' := by
  intro W hW
  have hl := LS_length s
  have h : ferruleref5_Cut.f ((LS s).length + 1 + 10) (BA (LS s)) n = some c := by
    unfold ferruleref5_Cut.f
    have := cut_l0 (LS s) n hn1 hn2 (by omega) ((LS s).length + 1) [] (toks (LS s)) rfl (by simp) (.inl rfl)
    refine this.trans ?_
    congr 1
    rw [← BA_LS c, hc]; unfold cut; rw [← BA_LS (ByteArray.extract _ _ _), LS_take, LS_BA]; rfl
  rw [BA_LS] at h
  refine (ferruleref5_Cut.calls _ s n c W h).mono ?_
  rintro e w' ⟨rfl, hd⟩
  exact ⟨rfl, step_any hW (drawn_below hd)⟩
end RefA
end Go.Proofs.YtanimkkljbadpaaDoor
