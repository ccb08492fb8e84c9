/- The reference's digits, raw, one, Read are the plain ones: the printed functions. -/
import Derived.Test.YtanimkkljbadpaaDoorR2
import Derived.Test.YtanimkkljbadpaaDoorH4
set_option linter.unusedVariables false
set_option linter.unusedSimpArgs false
namespace Go.Proofs.YtanimkkljbadpaaDoor
namespace RefB
open Go.RowKit Go.Proofs.YtanimkkljbadpaaDoorW.PrintWords Q PQuoteReads
open RefA (wr bt_BA BA_drop BA_size_drop)

def digV (o : Option Nat) : Int := match o with | some v => (v : Int) | none => -1
theorem digits_l0 : ∀ (m k n i v : Nat) (r : Bs), m + i = n → n ≤ r.length → n ≤ 4 → 2 * m < k → v + 1 ≤ 16 ^ i →
    ferruleref5_digits.l0 k (BA r) (n : Int) (v : Int) (i : Int) = some (digV (undigs m (r.drop i) v)) := by
  intro m
  induction m with
  | zero =>
    intro k n i v r h hn h4 hk hv
    obtain ⟨k, rfl⟩ : ∃ j, k = j + 1 := ⟨k - 1, by omega⟩
    rw [ferruleref5_digits.l0, if_neg (by omega)]
    rfl
  | succ m ih =>
    intro k n i v r h hn h4 hk hv
    obtain ⟨k, rfl⟩ : ∃ j, k = j + 2 := ⟨k - 2, by omega⟩
    have hb := bt_BA r i (by omega)
    have hd : r.drop i = r[i] :: r.drop (i + 1) := List.drop_eq_getElem_cons (by omega)
    have h256 := (r[i]).toNat_lt
    have hp : 16 ^ i ≤ 65536 := by
      have := Nat.pow_le_pow_right (n := 16) (by omega) (show i ≤ 4 by omega)
      omega
    have ih1 := ih k n (i + 1)
    rw [show k + 2 = (k + 1) + 1 from rfl, ferruleref5_digits.l0, BA_size, if_pos (by omega), if_pos (by omega), if_pos (by omega), hb, hd]
    generalize r[i] = b at *
    clear hb hd
    simp only [undigs]
    by_cases c1 : 48 ≤ b.toNat ∧ b.toNat ≤ 57
    · have hu : undig b = some (b.toNat - 48) := by unfold undig; rw [if_pos c1]
      rw [hu, if_pos (by omega), decide_eq_true (by omega), ferruleref5_digits.j1, if_pos rfl]
      have := ih1 (16 * v + (b.toNat - 48)) r (by omega) hn h4 (by omega) (by rw [Nat.pow_succ]; omega)
      rw [← this, wr (16 * (v : Int)) (by omega), wr _ (by omega), wr _ (by omega)]
      congr 1 <;> omega
    · by_cases c2 : 97 ≤ b.toNat ∧ b.toNat ≤ 102
      · have hu : undig b = some (b.toNat - 87) := by unfold undig; rw [if_neg c1, if_pos c2]
        rw [hu, if_pos (by omega), decide_eq_false (by omega), ferruleref5_digits.j1, if_neg (by decide), if_pos (by omega), if_pos (by omega)]
        have := ih1 (16 * v + (b.toNat - 87)) r (by omega) hn h4 (by omega) (by rw [Nat.pow_succ]; omega)
        rw [← this, wr (16 * (v : Int)) (by omega), wr (16 * (v : Int) + _) (by omega), wr _ (by omega), wr _ (by omega)]
        congr 1 <;> omega
      · have hu : undig b = none := by unfold undig; rw [if_neg c1, if_neg c2]
        rw [hu]
        have hj : ∀ c : Bool, c = false → ferruleref5_digits.j1 (k + 1) (BA r) (n : Int) (v : Int) (i : Int) (b.toNat : Int) c = some (-1) := by
          rintro c rfl
          rw [ferruleref5_digits.j1, if_neg (by decide)]
          repeat' split
          all_goals first | rfl | omega
        split
        · exact hj _ (decide_eq_false (by omega))
        · exact hj _ rfl
theorem digits_plain (n k : Nat) (r : Bs) (hn : n ≤ 4) (hk : 8 < k) : ferruleref5_digits.f k (BA r) (n : Int) = some (digV (undigs n r 0)) := by
  unfold ferruleref5_digits.f
  rw [BA_size]
  by_cases h : r.length < n
  · rw [if_pos (by omega), undigs_short n r 0 h]; rfl
  · rw [if_neg (by omega)]
    exact digits_l0 n k n 0 0 r (by omega) (by omega) hn (by omega) (by simp)
theorem raw_plain (v : Nat) (h : v < 65536) : ferruleref5_raw.f (v : Int) = some (BA (enc v)) := by
  unfold ferruleref5_raw.f
  have e1 : Int.tdiv (v : Int) 64 = ((v / 64 : Nat) : Int) := rfl
  have e2 : Int.tmod (v : Int) 64 = ((v % 64 : Nat) : Int) := rfl
  have e3 : Int.tdiv (v : Int) 4096 = ((v / 4096 : Nat) : Int) := rfl
  have e4 : Int.tmod ((v / 64 : Nat) : Int) 64 = ((v / 64 % 64 : Nat) : Int) := rfl
  rw [e1, e2, e3, wr ((v / 64 : Nat) : Int) (by omega), wr ((v / 4096 : Nat) : Int) (by omega), e4]
  rw [wr _ (by omega), wr _ (by omega), wr _ (by omega), wr _ (by omega)]
  unfold enc
  by_cases c1 : v < 128
  · rw [if_pos (by omega), if_pos c1, show (v : Int) % 256 = (v : Int) by omega]
    show some (BA [UInt8.ofNat ((v : Int)).toNat]) = _
    rw [Int.toNat_natCast]
  · rw [if_neg (by omega), if_neg c1]
    by_cases c2 : v < 2048
    · rw [if_pos (by omega), if_pos c2, show (192 + ((v / 64 : Nat) : Int)) % 256 = ((192 + v / 64 : Nat) : Int) by omega, show (128 + ((v % 64 : Nat) : Int)) % 256 = ((128 + v % 64 : Nat) : Int) by omega]
      rfl
    · rw [if_neg (by omega), if_neg c2, if_pos h, show (224 + ((v / 4096 : Nat) : Int)) % 256 = ((224 + v / 4096 : Nat) : Int) by omega, show (128 + ((v / 64 % 64 : Nat) : Int)) % 256 = ((128 + v / 64 % 64 : Nat) : Int) by omega, show (128 + ((v % 64 : Nat) : Int)) % 256 = ((128 + v % 64 : Nat) : Int) by omega]
      rfl
end RefB
end Go.Proofs.YtanimkkljbadpaaDoor
