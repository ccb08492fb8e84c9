/- The reference's pieces are the plain ones: the printed functions, once more (hex, Piece, Quote). -/
import Derived.Test.YtanimkkljbadpaaDoorR1
import Derived.Test.YtanimkkljbadpaaDoorH3
set_option linter.unusedVariables false
set_option linter.unusedSimpArgs false
namespace Go.Proofs.YtanimkkljbadpaaDoor
namespace RefB
open Go.RowKit Go.Proofs.YtanimkkljbadpaaDoorW.PrintWords Q PQuoteReads

open RefA (wr bt_BA v2_int v3_int v4_int BA_drop BA_size_drop)
theorem l0_step (k : Nat) (x : ByteArray) (n v i : Int) (hi : i < n) (hn : n ≤ 4) (h0 : 0 ≤ i) (hs : i < x.size) (hv : 0 ≤ v ∧ v ≤ 100000000) :
    ferruleref5_Rune.l0 (k + 1) x n v i = if bt x i < 128 then some (0, 0) else if bt x i > 191 then some (0, 0) else ferruleref5_Rune.l0 k x n (64 * v + bt x i - 128) (i + 1) := by
  have hb := bt_range x i
  rw [ferruleref5_Rune.l0, if_pos hi, if_pos h0, if_pos hs, wr (bt x i) (by omega), wr (64 * v) (by omega), wr (64 * v + bt x i) (by omega), wr (64 * v + bt x i - 128) (by omega), wr (i + 1) (by omega)]
theorem l0_end (k : Nat) (x : ByteArray) (n v : Int) : ferruleref5_Rune.l0 (k + 1) x n v n = if (n = 3 ∧ (v < 2048 ∨ (55296 ≤ v ∧ v < 57344))) ∨ (n = 4 ∧ (v < 65536 ∨ 1114111 < v)) then some (0, 0) else some (v, n) := by
  rw [ferruleref5_Rune.l0, if_neg (by omega)]
  repeat' split
  all_goals first | rfl | omega
theorem rune_dec (l : Bs) : ferruleref5_Rune.f 10 (BA l) = some (((dec l).1 : Int), ((dec l).2 : Int)) := by
  unfold ferruleref5_Rune.f
  rw [BA_size]
  match l with
  | [] => rfl
  | b0 :: t =>
    have hb0 : bt (BA (b0 :: t)) 0 = (b0.toNat : Int) := bt_BA (b0 :: t) 0 (by simp)
    have h256 := b0.toNat_lt
    rw [if_neg (by simp only [List.length_cons]; omega), if_pos (by simp only [List.length_cons]; omega), hb0, wr (b0.toNat) (by omega)]
    simp only [dec]
    by_cases c1 : b0.toNat < 128
    · rw [if_pos (by omega), if_pos c1]; rfl
    rw [if_neg (by omega), if_neg c1]
    have hj2 : ∀ (k : Nat) (n v : Int), ferruleref5_Rune.j2 (k + 1) (BA (b0 :: t)) n v = if ((b0 :: t).length : Int) < n then some (0, 0) else ferruleref5_Rune.l0 k (BA (b0 :: t)) n v 1 := by
      intro k n v; rw [ferruleref5_Rune.j2, BA_size]
    by_cases c2 : 194 ≤ b0.toNat ∧ b0.toNat < 224
    · rw [if_pos (by omega), if_pos c2, decide_eq_true (by omega)]
      rw [show (10 : Nat) = 9 + 1 from rfl, ferruleref5_Rune.j0, if_pos rfl, show (9 : Nat) = 8 + 1 from rfl, hj2, wr _ (by omega)]
      match t with
      | [] => rw [if_pos (by simp)]; rfl
      | b1 :: t =>
        have hb1 : bt (BA (b0 :: b1 :: t)) 1 = (b1.toNat : Int) := bt_BA (b0 :: b1 :: t) 1 (by simp)
        rw [if_neg (by simp; omega), show (8 : Nat) = 7 + 1 from rfl, l0_step _ _ _ _ _ (by omega) (by omega) (by omega) (by rw [BA_size]; simp; omega) (by omega), hb1]
        by_cases k1 : isCont b1 = true
        · have q1 := (isCont_iff b1).1 k1
          rw [if_neg (by omega), if_neg (by omega)]
          simp only [k1, if_true]
          rw [show (7 : Nat) = 6 + 1 from rfl, show ((1 : Int) + 1) = 2 from rfl, l0_end, if_neg (by omega)]
          rw [v2_int b0 b1 c2 q1]
          rfl
        · have q1 : ¬ (128 ≤ b1.toNat ∧ b1.toNat ≤ 191) := fun h => k1 ((isCont_iff b1).2 h)
          simp only [k1]
          split
          · rfl
          · rw [if_pos (by omega)]; rfl
    by_cases c3 : 224 ≤ b0.toNat ∧ b0.toNat < 240
    · rw [if_pos (by omega), if_neg c2, if_pos c3, decide_eq_false (by omega)]
      rw [show (10 : Nat) = 9 + 1 from rfl, ferruleref5_Rune.j0, if_neg (by decide), if_pos (by omega), decide_eq_true (by omega), show (9 : Nat) = 8 + 1 from rfl, ferruleref5_Rune.j1, if_pos rfl, show (8 : Nat) = 7 + 1 from rfl, hj2, wr _ (by omega)]
      match t with
      | [] => rw [if_pos (by simp)]; rfl
      | [b1] => rw [if_pos (by simp)]; rfl
      | b1 :: b2 :: t =>
        have hb1 : bt (BA (b0 :: b1 :: b2 :: t)) 1 = (b1.toNat : Int) := bt_BA (b0 :: b1 :: b2 :: t) 1 (by simp)
        have hb2 : bt (BA (b0 :: b1 :: b2 :: t)) 2 = (b2.toNat : Int) := bt_BA (b0 :: b1 :: b2 :: t) 2 (by simp)
        rw [if_neg (by simp; omega), show (7 : Nat) = 6 + 1 from rfl, l0_step _ _ _ _ _ (by omega) (by omega) (by omega) (by rw [BA_size]; simp; omega) (by omega), hb1]
        by_cases k1 : isCont b1 = true
        · have q1 := (isCont_iff b1).1 k1
          rw [if_neg (by omega), if_neg (by omega), show (6 : Nat) = 5 + 1 from rfl, show ((1 : Int) + 1) = 2 from rfl, l0_step _ _ _ _ _ (by omega) (by omega) (by omega) (by rw [BA_size]; simp; omega) (by omega), hb2]
          by_cases k2 : isCont b2 = true
          · have q2 := (isCont_iff b2).1 k2
            rw [if_neg (by omega), if_neg (by omega)]
            simp only [k1, k2, Bool.and_self, if_true]
            rw [show (5 : Nat) = 4 + 1 from rfl, show ((2 : Int) + 1) = 3 from rfl, l0_end]
            have hv : ((v3 b0.toNat b1 b2 : Nat) : Int) = 64 * (64 * ((b0.toNat : Int) - 224) + (b1.toNat : Int) - 128) + (b2.toNat : Int) - 128 := v3_int b0 b1 b2 c3 q1 q2
            rw [← hv]
            by_cases hh : v3 b0.toNat b1 b2 < 2048 ∨ (55296 ≤ v3 b0.toNat b1 b2 ∧ v3 b0.toNat b1 b2 < 57344)
            · rw [if_pos (by omega), if_pos hh]; rfl
            · rw [if_neg (by omega), if_neg hh]; rfl
          · have q2 : ¬ (128 ≤ b2.toNat ∧ b2.toNat ≤ 191) := fun h => k2 ((isCont_iff b2).2 h)
            simp only [k1, k2, Bool.and_false]
            split
            · rfl
            · rw [if_pos (by omega)]; rfl
        · have q1 : ¬ (128 ≤ b1.toNat ∧ b1.toNat ≤ 191) := fun h => k1 ((isCont_iff b1).2 h)
          simp only [k1, Bool.false_and]
          split
          · rfl
          · rw [if_pos (by omega)]; rfl
    by_cases c4 : 240 ≤ b0.toNat ∧ b0.toNat < 245
    · rw [if_pos (by omega), if_neg c2, if_neg c3, if_pos c4, decide_eq_false (by omega)]
      rw [show (10 : Nat) = 9 + 1 from rfl, ferruleref5_Rune.j0, if_neg (by decide), if_pos (by omega), decide_eq_false (by omega), show (9 : Nat) = 8 + 1 from rfl, ferruleref5_Rune.j1, if_neg (by decide), if_pos (by omega), if_pos (by omega), show (8 : Nat) = 7 + 1 from rfl, hj2, wr _ (by omega)]
      match t with
      | [] => rw [if_pos (by simp)]; rfl
      | [b1] => rw [if_pos (by simp)]; rfl
      | [b1, b2] => rw [if_pos (by simp)]; rfl
      | b1 :: b2 :: b3 :: t =>
        have hb1 : bt (BA (b0 :: b1 :: b2 :: b3 :: t)) 1 = (b1.toNat : Int) := bt_BA (b0 :: b1 :: b2 :: b3 :: t) 1 (by simp)
        have hb2 : bt (BA (b0 :: b1 :: b2 :: b3 :: t)) 2 = (b2.toNat : Int) := bt_BA (b0 :: b1 :: b2 :: b3 :: t) 2 (by simp)
        have hb3 : bt (BA (b0 :: b1 :: b2 :: b3 :: t)) 3 = (b3.toNat : Int) := bt_BA (b0 :: b1 :: b2 :: b3 :: t) 3 (by simp)
        rw [if_neg (by simp; omega), show (7 : Nat) = 6 + 1 from rfl, l0_step _ _ _ _ _ (by omega) (by omega) (by omega) (by rw [BA_size]; simp; omega) (by omega), hb1]
        by_cases k1 : isCont b1 = true
        · have q1 := (isCont_iff b1).1 k1
          rw [if_neg (by omega), if_neg (by omega), show (6 : Nat) = 5 + 1 from rfl, show ((1 : Int) + 1) = 2 from rfl, l0_step _ _ _ _ _ (by omega) (by omega) (by omega) (by rw [BA_size]; simp; omega) (by omega), hb2]
          by_cases k2 : isCont b2 = true
          · have q2 := (isCont_iff b2).1 k2
            rw [if_neg (by omega), if_neg (by omega), show (5 : Nat) = 4 + 1 from rfl, show ((2 : Int) + 1) = 3 from rfl, l0_step _ _ _ _ _ (by omega) (by omega) (by omega) (by rw [BA_size]; simp; omega) (by omega), hb3]
            by_cases k3 : isCont b3 = true
            · have q3 := (isCont_iff b3).1 k3
              rw [if_neg (by omega), if_neg (by omega)]
              simp only [k1, k2, k3, Bool.and_self, if_true]
              rw [show (4 : Nat) = 3 + 1 from rfl, show ((3 : Int) + 1) = 4 from rfl, l0_end]
              have hv : ((v4 b0.toNat b1 b2 b3 : Nat) : Int) = 64 * (64 * (64 * ((b0.toNat : Int) - 240) + (b1.toNat : Int) - 128) + (b2.toNat : Int) - 128) + (b3.toNat : Int) - 128 := v4_int b0 b1 b2 b3 c4 q1 q2 q3
              rw [← hv]
              by_cases hh : v4 b0.toNat b1 b2 b3 < 65536 ∨ 1114111 < v4 b0.toNat b1 b2 b3
              · rw [if_pos (by omega), if_pos hh]; rfl
              · rw [if_neg (by omega), if_neg hh]; rfl
            · have q3 : ¬ (128 ≤ b3.toNat ∧ b3.toNat ≤ 191) := fun h => k3 ((isCont_iff b3).2 h)
              simp only [k1, k2, k3, Bool.and_false]
              split
              · rfl
              · rw [if_pos (by omega)]; rfl
          · have q2 : ¬ (128 ≤ b2.toNat ∧ b2.toNat ≤ 191) := fun h => k2 ((isCont_iff b2).2 h)
            simp only [k1, k2, Bool.and_false, Bool.false_and]
            split
            · rfl
            · rw [if_pos (by omega)]; rfl
        · have q1 : ¬ (128 ≤ b1.toNat ∧ b1.toNat ≤ 191) := fun h => k1 ((isCont_iff b1).2 h)
          simp only [k1, Bool.false_and]
          split
          · rfl
          · rw [if_pos (by omega)]; rfl
    rw [if_neg c2, if_neg c3, if_neg c4]
    split
    · rw [decide_eq_false (by omega), show (10 : Nat) = 9 + 1 from rfl, ferruleref5_Rune.j0, if_neg (by decide)]
      split
      · rw [decide_eq_false (by omega), show (9 : Nat) = 8 + 1 from rfl, ferruleref5_Rune.j1, if_neg (by decide), if_pos (by omega), if_neg (by omega)]; rfl
      · omega
    · rw [show (10 : Nat) = 9 + 1 from rfl, ferruleref5_Rune.j0, if_neg (by decide)]
      rw [if_neg (by omega), show (9 : Nat) = 8 + 1 from rfl, ferruleref5_Rune.j1, if_neg (by decide), if_neg (by omega)]; rfl
theorem rune_more (l : Bs) (k : Nat) (hk : 10 ≤ k) : ferruleref5_Rune.f k (BA l) = some (((dec l).1 : Int), ((dec l).2 : Int)) := by
  induction k with
  | zero => omega
  | succ k ih =>
    by_cases h : 10 ≤ k
    · exact ferruleref5_Rune.mono (BA l) k _ (ih h)
    · obtain rfl : k = 9 := by omega
      exact rune_dec l

def hexR : Nat → Nat → Bs
  | 0, _ => []
  | n + 1, v => hexR n (v / 16) ++ [dig (v % 16)]
theorem hexR_len : ∀ (n v : Nat), (hexR n v).length = n := by
  intro n
  induction n with
  | zero => intro v; rfl
  | succ n ih => intro v; simp [hexR, ih]
theorem hexR2 (v : Nat) : hexR 2 v = hex2 v := by simp [hexR, hex2]
theorem hexR4 (v : Nat) : hexR 4 v = hex4 v := by simp [hexR, hex4, Nat.div_div_eq_div_mul]
theorem dig_ex (d : Nat) (hd : d < 16) : DIG.extract d (d + 1) = BA [dig d] := by
  have : d = 0 ∨ d = 1 ∨ d = 2 ∨ d = 3 ∨ d = 4 ∨ d = 5 ∨ d = 6 ∨ d = 7 ∨ d = 8 ∨ d = 9 ∨ d = 10 ∨ d = 11 ∨ d = 12 ∨ d = 13 ∨ d = 14 ∨ d = 15 := by omega
  rcases this with rfl | rfl | rfl | rfl | rfl | rfl | rfl | rfl | rfl | rfl | rfl | rfl | rfl | rfl | rfl | rfl <;> rfl
theorem hex_plain : ∀ (n k v : Nat), n < k → n ≤ 8 → v < 4294967296 → ferruleref5_hex.f k (v : Int) (n : Int) = some (BA (hexR n v)) := by
  intro n
  induction n with
  | zero =>
    intro k v hk hn hv
    obtain ⟨k, rfl⟩ : ∃ j, k = j + 1 := ⟨k - 1, by omega⟩
    rw [ferruleref5_hex.f, if_pos (by omega)]; rfl
  | succ n ih =>
    intro k v hk hn hv
    obtain ⟨k, rfl⟩ : ∃ j, k = j + 1 := ⟨k - 1, by omega⟩
    have e1 : Int.tdiv (v : Int) 16 = ((v / 16 : Nat) : Int) := rfl
    have e2 : Int.tmod (v : Int) 16 = ((v % 16 : Nat) : Int) := rfl
    have hm : v % 16 < 16 := Nat.mod_lt _ (by omega)
    have hd := dig_ex (v % 16) hm
    rw [ferruleref5_hex.f, if_neg (by omega), e1, e2, wr _ (by omega), wr ((n + 1 : Nat) - 1 : Int) (by omega), show (((n + 1 : Nat) : Int) - 1) = (n : Int) by omega, ih k (v / 16) (by omega) (by omega) (by omega)]
    rw [Option.bind_some]
    rw [wr _ (by omega), if_pos (by omega), if_pos (by omega), if_pos (by omega), Int.toNat_natCast, show ((((v % 16 : Nat) : Int) + 1)).toNat = v % 16 + 1 by omega]
    show (if (BA (hexR n (v / 16))).size + (DIG.extract (v % 16) (v % 16 + 1)).size ≤ 9223372036854775807 then some (BA (hexR n (v / 16)) ++ DIG.extract (v % 16) (v % 16 + 1)) else none) = _
    rw [hd, if_pos (by rw [BA_size, BA_size, hexR_len]; simp; omega), BA_append]
    rfl
theorem hex_two (k v : Nat) (hk : 2 < k) (hv : v < 4294967296) : ferruleref5_hex.f k (v : Int) 2 = some (BA (hex2 v)) := by
  have := hex_plain 2 k v hk (by omega) hv
  rw [hexR2] at this; exact this
theorem hex_four (k v : Nat) (hk : 4 < k) (hv : v < 4294967296) : ferruleref5_hex.f k (v : Int) 4 = some (BA (hex4 v)) := by
  have := hex_plain 4 k v hk (by omega) hv
  rw [hexR4] at this; exact this
theorem piece_none {l : Bs} {b : UInt8} {t : Bs} (hl : l = b :: t) (h : (dec l).2 = 0) : tell (l.take (tokLen l)) = [92, 120] ++ hex2 b.toNat := by
  have ht : tokLen l = 1 := by unfold tokLen; rw [if_pos h]
  have hne : l ≠ [] := by rw [hl]; simp
  rcases tok_form hne with ⟨e, e1, e2⟩ | ⟨e, e1, e2⟩
  · exact absurd h e
  · rw [ht, hl] at e1 ⊢
    have e3 : (b :: t).take 1 = [b] := rfl
    rw [e3] at e1 ⊢
    unfold tell
    rw [if_pos e1]; rfl
theorem piece_some {l : Bs} (h : (dec l).2 ≠ 0) : tell (l.take (tokLen l)) = told (dec l).1 (l.take (dec l).2) := by
  have ht : tokLen l = (dec l).2 := by unfold tokLen; rw [if_neg h]
  have hk := kind_take (kind_of_dec h)
  have hlen : (l.take (dec l).2).length = (dec l).2 := by rw [List.length_take]; have := dec_len h; omega
  rw [ht]
  exact tell_good (by rw [hlen]; exact hk)
theorem piece_plain (l : Bs) (hl : l ≠ []) (k : Nat) (hk : 10 ≤ k) : ferruleref5_Piece.f k (BA l) = some (BA (tell (l.take (tokLen l))), (tokLen l : Int)) := by
  unfold ferruleref5_Piece.f
  rw [rune_more l k hk, Option.bind_some]
  dsimp only
  by_cases h0 : (dec l).2 = 0
  · obtain ⟨b, t, rfl⟩ : ∃ b t, l = b :: t := by cases l with | nil => exact absurd rfl hl | cons b t => exact ⟨b, t, rfl⟩
    have hb : bt (BA (b :: t)) 0 = (b.toNat : Int) := bt_BA (b :: t) 0 (by simp)
    have h256 := b.toNat_lt
    have ht : tokLen (b :: t) = 1 := by unfold tokLen; rw [if_pos h0]
    rw [if_pos (by omega), BA_size, if_pos (by simp only [List.length_cons]; omega), hb, wr (b.toNat) (by omega), hex_two k b.toNat (by omega) (by omega), Option.bind_some, if_pos (by rw [BA_size]; simp [hex2]), piece_none rfl h0, ht, ← BA_append]
    rfl
  · have hs := piece_some h0
    have hk1 := enc_kind (kind_of_dec h0)
    have hlen := dec_len h0
    have ht : tokLen l = (dec l).2 := by unfold tokLen; rw [if_neg h0]
    rw [hs, ht]
    have h1 := hk1.2.1
    have h2 := hk1.2.2.1
    have hex : (BA l).extract 0 (dec l).2 = BA (l.take (dec l).2) := by rw [← BA_LS (ByteArray.extract _ _ _), LS_take, LS_BA]
    have hsz : (BA l).size = l.length := BA_size l
    have hx2 := hex_two (k - 1) (dec l).1 (by omega) (by omega)
    have hx4 := hex_four (k - 1) (dec l).1 (by omega) (by omega)
    obtain ⟨k, rfl⟩ : ∃ j, k = j + 1 := ⟨k - 1, by omega⟩
    rw [show k + 1 - 1 = k by omega] at hx2 hx4
    rw [if_neg (by omega)]
    clear hs hk1 h0 ht
    generalize (dec l).1 = v at *
    generalize (dec l).2 = n at *
    unfold told
    by_cases c1 : v = 34
    · rw [if_pos (by omega), if_pos c1, h1.1 (by omega)]; rfl
    rw [if_neg (by omega), if_neg c1]
    by_cases c2 : v = 92
    · rw [if_pos (by omega), if_pos c2, h1.1 (by omega)]; rfl
    rw [if_neg (by omega), if_neg c2]
    by_cases c3 : v = 10
    · rw [if_pos (by omega), if_pos c3, h1.1 (by omega)]; rfl
    rw [if_neg (by omega), if_neg c3]
    by_cases c4 : v = 9
    · rw [if_pos (by omega), if_pos c4, h1.1 (by omega)]; rfl
    rw [if_neg (by omega), if_neg c4]
    by_cases c5 : v = 0
    · rw [if_pos (by omega), if_pos c5, h1.1 (by omega)]; rfl
    rw [if_neg (by omega), if_neg c5]
    have hj : ∀ c : Bool, ferruleref5_Piece.j0 (k + 1) (BA l) (v : Int) (n : Int) c = if c = true then some (BA ([92, 120] ++ hex2 v), 1) else if odd v = true then some (BA ([92, 117] ++ hex4 v), (n : Int)) else some (BA (l.take n), (n : Int)) := by
      intro c
      have e1 : (⟨#[92, 120]⟩ : ByteArray) ++ BA (hex2 v) = BA ([92, 120] ++ hex2 v) := BA_append [92, 120] (hex2 v)
      have e2 : (⟨#[92, 117]⟩ : ByteArray) ++ BA (hex4 v) = BA ([92, 117] ++ hex4 v) := BA_append [92, 117] (hex4 v)
      have p1 : 2 + (BA (hex2 v)).size ≤ 9223372036854775807 := by rw [BA_size]; simp [hex2]
      have p2 : 2 + (BA (hex4 v)).size ≤ 9223372036854775807 := by rw [BA_size]; simp [hex4]
      have p3 : (0 : Int) ≤ (n : Int) := by omega
      have p4 : (n : Int) ≤ ((BA l).size : Int) := by rw [hsz]; omega
      rw [ferruleref5_Piece.j0]
      simp only [hx2, hx4, Option.bind_some, if_pos p1, if_pos p2, if_pos p3, if_pos p4, Int.toNat_natCast, hex, e1, e2]
      by_cases ho : odd v = true
      · rw [if_pos ho]
        have hv : (128 ≤ v ∧ v < 160) ∨ v = 8232 ∨ v = 8233 ∨ v = 65279 := by simp [odd] at ho; omega
        generalize BA ([92, 120] ++ hex2 v) = X
        generalize BA ([92, 117] ++ hex4 v) = Y
        generalize BA (l.take n) = Z
        repeat' split
        all_goals first | rfl | omega
      · rw [if_neg ho]
        have hv : ¬ ((128 ≤ v ∧ v < 160) ∨ v = 8232 ∨ v = 8233 ∨ v = 65279) := by intro h; apply ho; simp [odd]; omega
        generalize BA ([92, 120] ++ hex2 v) = X
        generalize BA ([92, 117] ++ hex4 v) = Y
        generalize BA (l.take n) = Z
        repeat' split
        all_goals first | rfl | omega
    by_cases c6 : v < 32
    · rw [if_pos (by omega), hj, if_pos rfl, if_pos (by simp [ctrl, c6]), h1.1 (by omega)]; rfl
    rw [if_neg (by omega), hj]
    by_cases c7 : v = 127
    · rw [if_pos (by rw [c7]; rfl), if_pos (by simp [ctrl, c7]), h1.1 (by omega)]; rfl
    · have hc : ¬ ctrl v = true := by simp [ctrl]; omega
      have hb : ¬ (((v : Int) == 127) = true) := by rw [Bool.not_eq_true]; exact beq_eq_false_iff_ne.2 (by omega)
      rw [if_neg hb, if_neg hc]
      by_cases ho : odd v = true
      · rw [if_pos ho, if_pos ho]
      · rw [if_neg ho, if_neg ho]
def N (l : Bs) : List Int := l.map fun b => (b.toNat : Int)
theorem str_N (l : Bs) : strOfNums (N l) = BA l := by
  unfold strOfNums N BA
  rw [List.map_map]
  congr 1
  have : ((fun n : Int => UInt8.ofNat n.toNat) ∘ fun b : UInt8 => (b.toNat : Int)) = id := by funext b; simp
  rw [this, List.map_id]
theorem bytes_N (l : Bs) : bytesOf (BA l) = N l := by simp [bytesOf, BA, N]
theorem N_append (a b : Bs) : N a ++ N b = N (a ++ b) := by simp [N]
theorem N_length (a : Bs) : (N a).length = a.length := by simp [N]
theorem quote_l0 : ∀ (f : Nat) (l acc : Bs), l.length < f → acc.length + 6 * l.length < 140737488355328 → ferruleref5_Quote.l0 (f + 10) (BA l) (N acc) = some (BA (acc ++ body l ++ [34])) := by
  intro f
  induction f with
  | zero => intro l acc h; omega
  | succ f ih =>
    intro l acc hf ha
    rw [show f + 1 + 10 = (f + 10) + 1 by omega, ferruleref5_Quote.l0, BA_size]
    by_cases hl : l = []
    · subst hl
      have e : N acc ++ [34] = N (acc ++ [34]) := N_append acc [34]
      rw [if_neg (by simp), if_pos (by rw [N_length]; omega), e, str_N, body_nil, List.append_nil]
    · have hpos : 0 < l.length := by cases l with | nil => exact absurd rfl hl | cons a b => simp
      have htk := tokLen_le hl
      have htp := tokLen_pos l
      have htl := tell_len _ (tok_take hl)
      rw [List.length_take, Nat.min_eq_left htk] at htl
      rw [if_pos (by omega), piece_plain l hl (f + 10) (by omega), Option.bind_some]
      dsimp only
      rw [N_length, BA_size, if_pos (by omega), if_pos (by omega), if_pos (by omega), Int.toNat_natCast, BA_size_drop l _ htk, bytes_N, N_append, ih _ _ (by simp; omega) (by simp; omega), body_cons hl, List.append_assoc acc]
theorem refQuote_any (w : World) (s : ByteArray) (q : Bs) (hs : s.size ≤ 17592186044416) (hq : quote (LS s) = q) : ∀ W, Below w.heap.size w W → Calls Tryd.prog 13 #[.string s] W fun e w' => e = .returned (.string (BA q)) ∧ Below w.heap.size w w' := by
  intro W hW
  have hl := LS_length s
  have h : ferruleref5_Quote.f ((LS s).length + 1 + 10) (BA (LS s)) = some (BA q) := by
    unfold ferruleref5_Quote.f
    have := quote_l0 ((LS s).length + 1) (LS s) [34] (by omega) (by simp; omega)
    rw [← hq]
    exact this
  rw [BA_LS] at h
  refine (ferruleref5_Quote.calls _ s (BA q) W h).mono ?_
  rintro e w' ⟨rfl, hd⟩
  exact ⟨rfl, step_any hW hd⟩
end RefB
end Go.Proofs.YtanimkkljbadpaaDoor
