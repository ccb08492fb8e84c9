/-
  Walks of the codec: vint.GetInt, the reader's number and whole.
-/
import Derived.Test.YtjmhkcfdmcjilaaGreatLpU
/- Walks of the codec: vint.Get, GetInt of what was put. -/
set_option linter.unusedVariables false
set_option linter.unusedSimpArgs false
namespace Go.Proofs.YtjmhkcfdmcjilaaGreat
namespace Lo
open Go.RowKit Ai Fi

def natI (l : List Nat) : List Int := l.map fun (x : Nat) => (x : Int)

theorem bits_or64 (k : Nat) {a b : Nat} (ha : a < 2 ^ k) (hb : 2 ^ k * b + a < 18446744073709551616) : bits .or .u64 (a : Int) ((2 ^ k * b : Nat) : Int) = ((a + 2 ^ k * b : Nat) : Int) := by
  show IntKind.u64.wrap ((BitVec.ofInt 64 (a : Int) ||| BitVec.ofInt 64 ((2 ^ k * b : Nat) : Int)).toNat : Nat) = _
  have h1 : (BitVec.ofInt 64 (a : Int)).toNat = a := by rw [BitVec.toNat_ofInt]; omega
  have h2 : (BitVec.ofInt 64 ((2 ^ k * b : Nat) : Int)).toNat = 2 ^ k * b := by rw [BitVec.toNat_ofInt]; omega
  rw [BitVec.toNat_or, h1, h2, IntKind.wrap_u64]
  have h3 : a ||| 2 ^ k * b = 2 ^ k * b + a := by rw [Nat.or_comm]; exact (Nat.two_pow_add_eq_or_of_lt ha b).symm
  rw [h3]
  omega

theorem and127 (x : Nat) (h : x < 256) : bits .and .u8 (x : Int) 127 = ((x % 128 : Nat) : Int) := by
  have : ∀ x : Fin 256, bits .and .u8 ((x.val : Nat) : Int) 127 = ((x.val % 128 : Nat) : Int) := by decide +kernel
  exact this ⟨x, h⟩

theorem enc_at {v y k x : Nat} {pre l rest : List Nat} (h : enc v = pre ++ enc y) (hk : pre.length = k) (he : enc y = x :: l) : (natI (enc v ++ rest))[k]? = some (x : Int) := by
  rw [h, he, natI, List.getElem?_map]
  subst hk
  simp

def VGetPost (w : World) (v : Nat) (e : Ending) (w' : World) : Prop := e = .returned (.tuple #[.int .u64 v, .int .i64 ((enc v).length : Nat), .int .i64 0]) ∧ w' = w

set_option maxHeartbeats 4000000 in
set_option maxRecDepth 100000 in
theorem get98_ok (w : World) (g off n cap : Nat) (v : Nat) (rest : List Nat) (hB : Bts w g off (natI (enc v ++ rest))) (hn : (enc v ++ rest).length = n) (hc : n ≤ cap) (hv : v < 34359738368) (hn2 : n ≤ 65536) :
    Calls Tryz.prog 98 #[.slice (some ⟨g, off, none⟩) n cap] w (VGetPost w v) := by
  have HB := Ai.Aside.mk hB
  have HN := Ai.Aside.mk hn
  have hl5 : (enc v).length ≤ 5 := enc_length_le 4 v (by omega)
  have hlen : (enc v).length ≤ n := by rw [← hn, List.length_append]; omega
  have HL5 := Ai.Aside.mk (And.intro hl5 hlen)
  have hpos := enc_pos v
  clear hB hn
  generalize hL : (enc v).length = L at *
  have HLE := Ai.Aside.mk hL
  clear hL
  go_enter Tryz.func98, Tryz.ntmps98
  go_upto_region 1 with (fail)
  go_upto_region 2 with (fail)
  all_goals
    go_loopw [13, 2] (fun v13 v2 wr => ∃ (k y acc : Nat) (pre : List Nat), k ≤ 4 ∧ v13 = .int .i64 k ∧ v2 = .int .u64 acc ∧ wr = w ∧ Ai.Aside (enc v = pre ++ enc y ∧ 128 ^ k * y + acc = v ∧ acc < 128 ^ k ∧ pre.length = k) ∧ Ai.Aside (k = 0 ∨ y ≠ 0)) (fun v13 _ _ => 5 - (intOf v13).toNat)
    case atStart => exact ⟨0, v, 0, [], by omega, rfl, rfl, rfl, ⟨rfl, by simp, by simp, rfl⟩, ⟨.inl rfl⟩⟩
    case round =>
      obtain ⟨k, y, acc, pre, hk, rfl, rfl, rfl, HR, HR0⟩ := hrel
      match k, hk with
      | 0, _ =>
        have hkn : 0 < n := by have h1 := HR.out.1; have h2 := congrArg List.length h1; rw [HLE.out, List.length_append, HR.out.2.2.2] at h2; have h3 := enc_pos y; omega
        have hkn2 : (0 : Int) < (n : Int) := by omega
        have hp : 1 * y + acc = v := by have := HR.out.2.1; simpa using this
        have ha : acc < 1 := by have := HR.out.2.2.1; simpa using this
        by_cases hy : y < 128
        · have hb := (HB.out.2 0 (y : Int) (enc_at HR.out.1 HR.out.2.2.2 (enc_small hy))).1
          simp only [Nat.add_zero] at hb
          have hand : bits .and .u8 (y : Int) 127 = (y : Int) := by rw [and127 y (by omega)]; congr 1; omega
          have hor := bits_or64 0 (a := acc) (b := y) (by omega) (by omega)
          have hor2 : bits .or .u64 (acc : Int) ((y : Int)) = (v : Int) := by rw [show ((y : Int)) = ((2 ^ 0 * y : Nat) : Int) by omega, hor]; congr 1; omega
          have hLk : L = 0 + 1 := by rw [← HLE.out, HR.out.1, List.length_append, HR.out.2.2.2, enc_small hy]; rfl
          
          clear hor hp ha
          go_wp2_with fail
          all_goals first
            | (exfalso; omega)
            | (go_ret3; exact ⟨by rw [HLE.out, hLk]; rfl, rfl⟩)
        · obtain ⟨c, hc128⟩ : ∃ c : Nat, c = y % 128 + 128 := ⟨_, rfl⟩
          have hb := (HB.out.2 0 (c : Int) (by rw [hc128]; exact enc_at HR.out.1 HR.out.2.2.2 (enc_great hy))).1
          simp only [Nat.add_zero] at hb
          obtain ⟨d, hd⟩ : ∃ d : Nat, d = y % 128 := ⟨_, rfl⟩
          have hc1 : c < 256 ∧ 128 ≤ c := by omega
          have hd1 : d < 128 := by omega
          have hand : bits .and .u8 (c : Int) 127 = (d : Int) := by rw [and127 c (by omega)]; congr 1; omega
          have hor := bits_or64 0 (a := acc) (b := d) (by omega) (by omega)
          have hor2 : bits .or .u64 (acc : Int) ((d : Int)) = ((acc + d : Nat) : Int) := by rw [show ((d : Int)) = ((2 ^ 0 * d : Nat) : Int) by omega, hor]; omega
          have HE := Ai.Aside.mk (enc_great hy)
          have HC := Ai.Aside.mk hc128
          have HD := Ai.Aside.mk hd
          have HYP := Ai.Aside.mk hp
          clear hor hc128 hd hp
          go_wp2_with fail
          go_roundw
          case rel => exact ⟨1, y / 128, acc + d, pre ++ [c], by omega, by go_num, rfl, trivial, ⟨by rw [HR.out.1, HE.out, HC.out]; simp, by have := HD.out; have := HYP.out; omega, by have := HD.out; omega, by rw [List.length_append, HR.out.2.2.2]; rfl⟩, ⟨.inr (by omega)⟩⟩
          case measure => simp [intOf]
      | 1, _ =>
        have hkn : 1 < n := by have h1 := HR.out.1; have h2 := congrArg List.length h1; rw [HLE.out, List.length_append, HR.out.2.2.2] at h2; have h3 := enc_pos y; omega
        have hkn2 : (1 : Int) < (n : Int) := by omega
        have hp : 128 * y + acc = v := by have := HR.out.2.1; simpa using this
        have ha : acc < 128 := by have := HR.out.2.2.1; simpa using this
        by_cases hy : y < 128
        · have hb := (HB.out.2 1 (y : Int) (enc_at HR.out.1 HR.out.2.2.2 (enc_small hy))).1
          have hand : bits .and .u8 (y : Int) 127 = (y : Int) := by rw [and127 y (by omega)]; congr 1; omega
          have hor := bits_or64 7 (a := acc) (b := y) (by omega) (by omega)
          have hor2 : bits .or .u64 (acc : Int) ((y : Int) * 128) = (v : Int) := by rw [show ((y : Int) * 128) = ((2 ^ 7 * y : Nat) : Int) by omega, hor]; congr 1; omega
          have hLk : L = 1 + 1 := by rw [← HLE.out, HR.out.1, List.length_append, HR.out.2.2.2, enc_small hy]; rfl
          have hy0 : ¬ y = 0 := by have := HR0.out; omega
          clear hor hp ha
          go_wp2_with fail
          all_goals first
            | (exfalso; omega)
            | (go_ret3; exact ⟨by rw [HLE.out, hLk]; rfl, rfl⟩)
        · obtain ⟨c, hc128⟩ : ∃ c : Nat, c = y % 128 + 128 := ⟨_, rfl⟩
          have hb := (HB.out.2 1 (c : Int) (by rw [hc128]; exact enc_at HR.out.1 HR.out.2.2.2 (enc_great hy))).1
          obtain ⟨d, hd⟩ : ∃ d : Nat, d = y % 128 := ⟨_, rfl⟩
          have hc1 : c < 256 ∧ 128 ≤ c := by omega
          have hd1 : d < 128 := by omega
          have hand : bits .and .u8 (c : Int) 127 = (d : Int) := by rw [and127 c (by omega)]; congr 1; omega
          have hor := bits_or64 7 (a := acc) (b := d) (by omega) (by omega)
          have hor2 : bits .or .u64 (acc : Int) ((d : Int) * 128) = ((acc + 128 * d : Nat) : Int) := by rw [show ((d : Int) * 128) = ((2 ^ 7 * d : Nat) : Int) by omega, hor]
          have HE := Ai.Aside.mk (enc_great hy)
          have HC := Ai.Aside.mk hc128
          have HD := Ai.Aside.mk hd
          have HYP := Ai.Aside.mk hp
          clear hor hc128 hd hp
          go_wp2_with fail
          go_roundw
          case rel => exact ⟨2, y / 128, acc + 128 * d, pre ++ [c], by omega, by go_num, rfl, trivial, ⟨by rw [HR.out.1, HE.out, HC.out]; simp, by have := HD.out; have := HYP.out; omega, by have := HD.out; omega, by rw [List.length_append, HR.out.2.2.2]; rfl⟩, ⟨.inr (by omega)⟩⟩
          case measure => simp [intOf]
      | 2, _ =>
        have hkn : 2 < n := by have h1 := HR.out.1; have h2 := congrArg List.length h1; rw [HLE.out, List.length_append, HR.out.2.2.2] at h2; have h3 := enc_pos y; omega
        have hkn2 : (2 : Int) < (n : Int) := by omega
        have hp : 16384 * y + acc = v := by have := HR.out.2.1; simpa using this
        have ha : acc < 16384 := by have := HR.out.2.2.1; simpa using this
        by_cases hy : y < 128
        · have hb := (HB.out.2 2 (y : Int) (enc_at HR.out.1 HR.out.2.2.2 (enc_small hy))).1
          have hand : bits .and .u8 (y : Int) 127 = (y : Int) := by rw [and127 y (by omega)]; congr 1; omega
          have hor := bits_or64 14 (a := acc) (b := y) (by omega) (by omega)
          have hor2 : bits .or .u64 (acc : Int) ((y : Int) * 16384) = (v : Int) := by rw [show ((y : Int) * 16384) = ((2 ^ 14 * y : Nat) : Int) by omega, hor]; congr 1; omega
          have hLk : L = 2 + 1 := by rw [← HLE.out, HR.out.1, List.length_append, HR.out.2.2.2, enc_small hy]; rfl
          have hy0 : ¬ y = 0 := by have := HR0.out; omega
          clear hor hp ha
          go_wp2_with fail
          all_goals first
            | (exfalso; omega)
            | (go_ret3; exact ⟨by rw [HLE.out, hLk]; rfl, rfl⟩)
        · obtain ⟨c, hc128⟩ : ∃ c : Nat, c = y % 128 + 128 := ⟨_, rfl⟩
          have hb := (HB.out.2 2 (c : Int) (by rw [hc128]; exact enc_at HR.out.1 HR.out.2.2.2 (enc_great hy))).1
          obtain ⟨d, hd⟩ : ∃ d : Nat, d = y % 128 := ⟨_, rfl⟩
          have hc1 : c < 256 ∧ 128 ≤ c := by omega
          have hd1 : d < 128 := by omega
          have hand : bits .and .u8 (c : Int) 127 = (d : Int) := by rw [and127 c (by omega)]; congr 1; omega
          have hor := bits_or64 14 (a := acc) (b := d) (by omega) (by omega)
          have hor2 : bits .or .u64 (acc : Int) ((d : Int) * 16384) = ((acc + 16384 * d : Nat) : Int) := by rw [show ((d : Int) * 16384) = ((2 ^ 14 * d : Nat) : Int) by omega, hor]
          have HE := Ai.Aside.mk (enc_great hy)
          have HC := Ai.Aside.mk hc128
          have HD := Ai.Aside.mk hd
          have HYP := Ai.Aside.mk hp
          clear hor hc128 hd hp
          go_wp2_with fail
          go_roundw
          case rel => exact ⟨3, y / 128, acc + 16384 * d, pre ++ [c], by omega, by go_num, rfl, trivial, ⟨by rw [HR.out.1, HE.out, HC.out]; simp, by have := HD.out; have := HYP.out; omega, by have := HD.out; omega, by rw [List.length_append, HR.out.2.2.2]; rfl⟩, ⟨.inr (by omega)⟩⟩
          case measure => simp [intOf]
      | 3, _ =>
        have hkn : 3 < n := by have h1 := HR.out.1; have h2 := congrArg List.length h1; rw [HLE.out, List.length_append, HR.out.2.2.2] at h2; have h3 := enc_pos y; omega
        have hkn2 : (3 : Int) < (n : Int) := by omega
        have hp : 2097152 * y + acc = v := by have := HR.out.2.1; simpa using this
        have ha : acc < 2097152 := by have := HR.out.2.2.1; simpa using this
        by_cases hy : y < 128
        · have hb := (HB.out.2 3 (y : Int) (enc_at HR.out.1 HR.out.2.2.2 (enc_small hy))).1
          have hand : bits .and .u8 (y : Int) 127 = (y : Int) := by rw [and127 y (by omega)]; congr 1; omega
          have hor := bits_or64 21 (a := acc) (b := y) (by omega) (by omega)
          have hor2 : bits .or .u64 (acc : Int) ((y : Int) * 2097152) = (v : Int) := by rw [show ((y : Int) * 2097152) = ((2 ^ 21 * y : Nat) : Int) by omega, hor]; congr 1; omega
          have hLk : L = 3 + 1 := by rw [← HLE.out, HR.out.1, List.length_append, HR.out.2.2.2, enc_small hy]; rfl
          have hy0 : ¬ y = 0 := by have := HR0.out; omega
          clear hor hp ha
          go_wp2_with fail
          all_goals first
            | (exfalso; omega)
            | (go_ret3; exact ⟨by rw [HLE.out, hLk]; rfl, rfl⟩)
        · obtain ⟨c, hc128⟩ : ∃ c : Nat, c = y % 128 + 128 := ⟨_, rfl⟩
          have hb := (HB.out.2 3 (c : Int) (by rw [hc128]; exact enc_at HR.out.1 HR.out.2.2.2 (enc_great hy))).1
          obtain ⟨d, hd⟩ : ∃ d : Nat, d = y % 128 := ⟨_, rfl⟩
          have hc1 : c < 256 ∧ 128 ≤ c := by omega
          have hd1 : d < 128 := by omega
          have hand : bits .and .u8 (c : Int) 127 = (d : Int) := by rw [and127 c (by omega)]; congr 1; omega
          have hor := bits_or64 21 (a := acc) (b := d) (by omega) (by omega)
          have hor2 : bits .or .u64 (acc : Int) ((d : Int) * 2097152) = ((acc + 2097152 * d : Nat) : Int) := by rw [show ((d : Int) * 2097152) = ((2 ^ 21 * d : Nat) : Int) by omega, hor]
          have HE := Ai.Aside.mk (enc_great hy)
          have HC := Ai.Aside.mk hc128
          have HD := Ai.Aside.mk hd
          have HYP := Ai.Aside.mk hp
          clear hor hc128 hd hp
          go_wp2_with fail
          go_roundw
          case rel => exact ⟨4, y / 128, acc + 2097152 * d, pre ++ [c], by omega, by go_num, rfl, trivial, ⟨by rw [HR.out.1, HE.out, HC.out]; simp, by have := HD.out; have := HYP.out; omega, by have := HD.out; omega, by rw [List.length_append, HR.out.2.2.2]; rfl⟩, ⟨.inr (by omega)⟩⟩
          case measure => simp [intOf]
      | 4, _ =>
        have hkn : 4 < n := by have h1 := HR.out.1; have h2 := congrArg List.length h1; rw [HLE.out, List.length_append, HR.out.2.2.2] at h2; have h3 := enc_pos y; omega
        have hkn2 : (4 : Int) < (n : Int) := by omega
        have hp : 268435456 * y + acc = v := by have := HR.out.2.1; simpa using this
        have ha : acc < 268435456 := by have := HR.out.2.2.1; simpa using this
        by_cases hy : y < 128
        · have hb := (HB.out.2 4 (y : Int) (enc_at HR.out.1 HR.out.2.2.2 (enc_small hy))).1
          have hand : bits .and .u8 (y : Int) 127 = (y : Int) := by rw [and127 y (by omega)]; congr 1; omega
          have hor := bits_or64 28 (a := acc) (b := y) (by omega) (by omega)
          have hor2 : bits .or .u64 (acc : Int) ((y : Int) * 268435456) = (v : Int) := by rw [show ((y : Int) * 268435456) = ((2 ^ 28 * y : Nat) : Int) by omega, hor]; congr 1; omega
          have hLk : L = 4 + 1 := by rw [← HLE.out, HR.out.1, List.length_append, HR.out.2.2.2, enc_small hy]; rfl
          have hy0 : ¬ y = 0 := by have := HR0.out; omega
          clear hor hp ha
          go_wp2_with fail
          all_goals first
            | (exfalso; omega)
            | (go_ret3; exact ⟨by rw [HLE.out, hLk]; rfl, rfl⟩)
        · exfalso; omega
end Lo
end Go.Proofs.YtjmhkcfdmcjilaaGreat
set_option linter.unusedVariables false
set_option linter.unusedSimpArgs false
namespace Go.Proofs.YtjmhkcfdmcjilaaGreat
namespace Lo
open Go.RowKit Ai Fi

theorem xori_0 {a : Int} (h0 : 0 ≤ a) (ha : a < 9223372036854775808) : bits .xor .i64 a 0 = a := by
  obtain ⟨a, rfl⟩ := Int.eq_ofNat_of_zero_le h0
  show IntKind.i64.wrap ((BitVec.ofInt 64 (a : Int) ^^^ BitVec.ofInt 64 0).toNat : Nat) = _
  rw [BitVec.toNat_xor]
  have h1 : (BitVec.ofInt 64 (a : Int)).toNat = a := by rw [BitVec.toNat_ofInt]; omega
  have h2 : (BitVec.ofInt 64 0).toNat = 0 := by decide
  rw [h1, h2, Nat.xor_zero, IntKind.wrap_i64]
  omega

theorem xori_m1 {a : Int} (h0 : 0 ≤ a) (ha : a < 9223372036854775808) : bits .xor .i64 a (-1) = -1 - a := by
  obtain ⟨a, rfl⟩ := Int.eq_ofNat_of_zero_le h0
  show IntKind.i64.wrap ((BitVec.ofInt 64 (a : Int) ^^^ BitVec.ofInt 64 (-1)).toNat : Nat) = _
  have h2 : BitVec.ofInt 64 (-1) = BitVec.allOnes 64 := by decide
  rw [h2, BitVec.xor_allOnes, BitVec.toNat_not]
  have h1 : (BitVec.ofInt 64 (a : Int)).toNat = a := by rw [BitVec.toNat_ofInt]; omega
  rw [h1, IntKind.wrap_i64]
  omega

theorem and1_64 {a : Nat} (ha : a < 18446744073709551616) : bits .and .u64 (a : Int) 1 = ((a % 2 : Nat) : Int) := by
  show IntKind.u64.wrap ((BitVec.ofInt 64 (a : Int) &&& BitVec.ofInt 64 1).toNat : Nat) = _
  have h1 : (BitVec.ofInt 64 (a : Int)).toNat = a := by rw [BitVec.toNat_ofInt]; omega
  have h2 : (BitVec.ofInt 64 1).toNat = 2 ^ 1 - 1 := by decide
  rw [BitVec.toNat_and, h1, h2, Nat.and_two_pow_sub_one_eq_mod, IntKind.wrap_u64]
  omega

def VIntPost (w : World) (x : Int) (e : Ending) (w' : World) : Prop := e = .returned (.tuple #[.int .i64 x, .int .i64 ((enc (zig x)).length : Nat), .int .i64 0]) ∧ w' = w

set_option maxHeartbeats 4000000 in
set_option maxRecDepth 100000 in
theorem get99_ok (w : World) (g off n cap : Nat) (x : Int) (rest : List Nat) (hB : Bts w g off (natI (enc (zig x) ++ rest))) (hn : (enc (zig x) ++ rest).length = n) (hc : n ≤ cap) (h0 : -8589934592 ≤ x) (h1 : x ≤ 8589934592) (hn2 : n ≤ 65536) :
    Calls Tryz.prog 99 #[.slice (some ⟨g, off, none⟩) n cap] w (VIntPost w x) := by
  have hz : zig x < 34359738368 := by unfold zig; split <;> omega
  have HG := Ai.Aside.mk (get98_ok w g off n cap (zig x) rest hB hn hc hz hn2)
  clear hB hn
  by_cases hx : x < 0
  · obtain ⟨m, hm⟩ : ∃ m : Nat, x = -1 - (m : Int) := ⟨(-1 - x).toNat, by omega⟩
    have hz2 : zig x = 2 * m + 1 := by unfold zig; rw [if_pos hx]; omega
    have ha : bits .and .u64 ((2 * m + 1 : Nat) : Int) 1 = 1 := by rw [and1_64 (by omega)]; omega
    have hxo : bits .xor .i64 (m : Int) (-1) = x := by rw [xori_m1 (by omega) (by omega)]; omega
    have hd : (((2 * m + 1 : Nat) : Int)) / 2 = (m : Int) := by omega
    have hb : m ≤ 8589934592 := by omega
    unfold VIntPost
    unfold VGetPost at HG
    rw [hz2] at HG ⊢
    obtain ⟨L, hL⟩ : ∃ L, L = (enc (2 * m + 1)).length := ⟨_, rfl⟩
    obtain ⟨u, hu⟩ : ∃ u, u = 2 * m + 1 := ⟨_, rfl⟩
    rw [← hL] at HG ⊢
    rw [← hu] at HG ha hd
    have hub : u < 34359738368 := by omega
    clear hL hu hz hz2 hm hx h0 h1
    go_enter Tryz.func99, Tryz.ntmps99
    go_wp2_with (first | (go_at_call 98; go_loud (refine HG.out.mono ?_; rintro e w2 ⟨rfl, hw⟩; have hw2 := hw.symm; clear hw; subst hw2)))
    go_ret3
    exact ⟨rfl, rfl⟩
  · obtain ⟨m, hm⟩ : ∃ m : Nat, x = (m : Int) := ⟨x.toNat, by omega⟩
    have hz2 : zig x = 2 * m := by unfold zig; rw [if_neg hx]; omega
    have ha : bits .and .u64 ((2 * m : Nat) : Int) 1 = 0 := by rw [and1_64 (by omega)]; omega
    have hxo : bits .xor .i64 (m : Int) 0 = x := by rw [xori_0 (by omega) (by omega)]; omega
    have hd : (((2 * m : Nat) : Int)) / 2 = (m : Int) := by omega
    have hb : m ≤ 8589934592 := by omega
    unfold VIntPost
    unfold VGetPost at HG
    rw [hz2] at HG ⊢
    obtain ⟨L, hL⟩ : ∃ L, L = (enc (2 * m)).length := ⟨_, rfl⟩
    obtain ⟨u, hu⟩ : ∃ u, u = 2 * m := ⟨_, rfl⟩
    rw [← hL] at HG ⊢
    rw [← hu] at HG ha hd
    have hub : u < 34359738368 := by omega
    clear hL hu hz hz2 hm hx h0 h1
    go_enter Tryz.func99, Tryz.ntmps99
    go_wp2_with (first | (go_at_call 98; go_loud (refine HG.out.mono ?_; rintro e w2 ⟨rfl, hw⟩; have hw2 := hw.symm; clear hw; subst hw2)))
    go_ret3
    exact ⟨rfl, rfl⟩

/-- A reader that has these bytes left. -/
structure Rdr (w : World) (r g : Nat) (l : List Nat) : Prop where
  row : ∃ A cap, RowV w r 120 [.slice A l.length cap, .bool false] ∧ l.length ≤ cap ∧ (l ≠ [] → ∃ off, A = some ⟨g, off, none⟩ ∧ Bts w g off (natI l))

theorem Rdr.below {w w' : World} {r g : Nat} {l : List Nat} (h : Rdr w r g l) (hb : Below w.heap.size w w') : Rdr w' r g l := by
  obtain ⟨A, cap, h1, h2, h3⟩ := h.row
  exact ⟨A, cap, h1.below hb, h2, fun hn => by obtain ⟨off, e, hB⟩ := h3 hn; exact ⟨off, e, hB.below hb⟩⟩

theorem natI_drop (E l : List Nat) : (natI (E ++ l)).drop E.length = natI l := by
  rw [natI, natI, List.map_append, List.drop_left' (by simp)]

/-- The reader goes on. -/
theorem Rdr.next {w : World} {r g off cap n : Nat} {E l : List Nat} (hr : RowV w r 120 [.slice (some ⟨g, off, none⟩) n cap, .bool false]) (hn : (E ++ l).length = n) (hc : n ≤ cap) (hB : Bts w g off (natI (E ++ l))) (hne : g ≠ r) :
    ∀ (A : Option Addr), A = (if cap = E.length then some ⟨g, off, none⟩ else some ⟨g, off + E.length, none⟩) → ∀ w1, RowV w1 r 120 [.slice (some ⟨g, off, none⟩) n cap, .bool false] → Mod w w1 r →
      Mod w (w1.setCell ⟨r, 0, none⟩ (.slice A (n - E.length) (cap - E.length))) r ∧ Rdr (w1.setCell ⟨r, 0, none⟩ (.slice A (n - E.length) (cap - E.length))) r g l := by
  intro A hA w1 h1 hm
  have hl : n - E.length = l.length := by rw [← hn, List.length_append]; omega
  have hm2 := hm.trans (mod_set w1 r 0 (.slice A (n - E.length) (cap - E.length)))
  refine ⟨hm2, ⟨A, cap - E.length, ?_, by rw [← hl]; omega, fun hne2 => ⟨off + E.length, ?_, ?_⟩⟩⟩
  · have := h1.set 0 (.slice A (n - E.length) (cap - E.length))
    rw [hl] at this ⊢
    exact this
  · have : 0 < l.length := List.length_pos_iff.2 hne2
    rw [hA, if_neg (by omega)]
  · have := (hB.mod hm2 hne).sub E.length
    rwa [natI_drop] at this

def NumPost (w : World) (r g : Nat) (v : Int) (l : List Nat) (e : Ending) (w' : World) : Prop := e = .returned (.int .i64 v) ∧ Mod w w' r ∧ Rdr w' r g l

set_option maxHeartbeats 4000000 in
set_option maxRecDepth 100000 in
theorem number_ok (w : World) (r g v : Nat) (l : List Nat) (h : Rdr w r g (enc v ++ l)) (hne : g ≠ r) (hv : v ≤ 1073741824) (hl : (enc v ++ l).length ≤ 65536) :
    Calls Tryz.prog 59 #[.pointer (some ⟨r, 0, none⟩)] w (NumPost w r g v l) := by
  obtain ⟨A, cap, h1, h2, h3⟩ := h.row
  obtain ⟨off, rfl, hB⟩ := h3 (by intro e; have h4 := congrArg List.length e; rw [List.length_append] at h4; have h5 := enc_pos v; simp only [List.length_nil] at h4; omega)
  obtain ⟨n, hn⟩ : ∃ n, n = (enc v ++ l).length := ⟨_, rfl⟩
  rw [← hn] at h1 h2 hl
  have HG := Ai.Aside.mk (get98_ok w g off n cap v l hB hn.symm h2 (by omega) hl)
  have HX := Ai.Aside.mk (Rdr.next h1 hn.symm h2 hB hne)
  have c0 := h1.cell (i := 0) rfl
  have c1 := h1.cell (i := 1) rfl
  have f0 := h1.fr 0
  have f1 := h1.fr 1
  have HR := Ai.Aside.mk h1
  have hLn : (enc v).length ≤ n := by rw [hn, List.length_append]; omega
  obtain ⟨L, hL⟩ : ∃ L, L = (enc v).length := ⟨_, rfl⟩
  unfold VGetPost at HG
  rw [← hL] at HG HX hLn
  have hLn2 : (L : Int) ≤ (n : Int) := by omega
  have hvm : (v : Int) % 18446744073709551616 = v := by omega
  have hd1 : decide (1073741824 < (v : Int)) = false := decide_eq_false (by omega)
  clear h h1 h3 hB hn hL
  go_enter Tryz.func59, Tryz.ntmps59
  go_wp2_with (first | (go_at_call 98; go_loud (refine HG.out.mono ?_; rintro e w2 ⟨rfl, hw⟩; have hw2 := hw.symm; clear hw; subst hw2)))
  all_goals
    go_ret
    first
      | exact ⟨rfl, HX.out _ (by rw [if_neg (by assumption)]) _ (HR.out.set 1 (.bool false)) (mod_set w r 1 (.bool false))⟩
      | (have hq := HX.out _ (by rw [if_pos (by assumption)]) _ (HR.out.set 1 (.bool false)) (mod_set w r 1 (.bool false)); rw [show cap - L = 0 by omega] at hq; exact ⟨rfl, hq⟩)

set_option maxHeartbeats 4000000 in
set_option maxRecDepth 100000 in
theorem whole_ok (w : World) (r g : Nat) (v : Int) (l : List Nat) (h : Rdr w r g (enc (zig v) ++ l)) (hne : g ≠ r) (hv0 : -1073741824 ≤ v) (hv : v ≤ 1073741824) (hl : (enc (zig v) ++ l).length ≤ 65536) :
    Calls Tryz.prog 60 #[.pointer (some ⟨r, 0, none⟩)] w (NumPost w r g v l) := by
  obtain ⟨A, cap, h1, h2, h3⟩ := h.row
  obtain ⟨off, rfl, hB⟩ := h3 (by intro e; have h4 := congrArg List.length e; rw [List.length_append] at h4; have h5 := enc_pos (zig v); simp only [List.length_nil] at h4; omega)
  obtain ⟨n, hn⟩ : ∃ n, n = (enc (zig v) ++ l).length := ⟨_, rfl⟩
  rw [← hn] at h1 h2 hl
  have HG := Ai.Aside.mk (get99_ok w g off n cap v l hB hn.symm h2 (by omega) (by omega) hl)
  have HX := Ai.Aside.mk (Rdr.next h1 hn.symm h2 hB hne)
  have c0 := h1.cell (i := 0) rfl
  have c1 := h1.cell (i := 1) rfl
  have f0 := h1.fr 0
  have f1 := h1.fr 1
  have HR := Ai.Aside.mk h1
  have hLn : (enc (zig v)).length ≤ n := by rw [hn, List.length_append]; omega
  obtain ⟨L, hL⟩ : ∃ L, L = (enc (zig v)).length := ⟨_, rfl⟩
  unfold VIntPost at HG
  rw [← hL] at HG HX hLn
  have hLn2 : (L : Int) ≤ (n : Int) := by omega
  have hd1 : decide (1073741824 < v) = false := decide_eq_false (by omega)
  have hd2 : decide (v < -1073741824) = false := decide_eq_false (by omega)
  clear h h1 h3 hB hn hL
  go_enter Tryz.func60, Tryz.ntmps60
  go_wp2_with (first | (go_at_call 99; go_loud (refine HG.out.mono ?_; rintro e w2 ⟨rfl, hw⟩; have hw2 := hw.symm; clear hw; subst hw2)))
  all_goals
    go_ret
    first
      | exact ⟨rfl, HX.out _ (by rw [if_neg (by assumption)]) _ (HR.out.set 1 (.bool false)) (mod_set w r 1 (.bool false))⟩
      | (have hq := HX.out _ (by rw [if_pos (by assumption)]) _ (HR.out.set 1 (.bool false)) (mod_set w r 1 (.bool false)); rw [show cap - L = 0 by omega] at hq; exact ⟨rfl, hq⟩)
end Lo
end Go.Proofs.YtjmhkcfdmcjilaaGreat
