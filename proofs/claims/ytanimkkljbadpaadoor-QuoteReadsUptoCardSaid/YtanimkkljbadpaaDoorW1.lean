/- Walks: number, told, wrong. -/
import Derived.Test.YtanimkkljbadpaaDoorBuild
import Derived.Test.YtanimkkljbadpaaDoorPlain4
import Derived.Lib.Hide
import Derived.Outline
import Derived.Deep.DeepCutAuto
import Derived.Laws.Runes
set_option linter.unusedVariables false
set_option linter.unusedSimpArgs false
namespace Go.Proofs.YtanimkkljbadpaaDoor
open Go.Shelf Go.RowKit Q

def BA (l : Bs) : ByteArray := ⟨l.toArray⟩
/-- A fact that the walk does not use. -/
structure Aside (p : Prop) : Prop where mk :: (out : p)

theorem and15 (q : Nat) (h : q < 2147483648) : bits .and .i32 (q : Int) 15 = ((q % 16 : Nat) : Int) := by
  have h15 : (BitVec.ofInt 32 15).toNat = 2 ^ 4 - 1 := by decide
  have key : (BitVec.ofInt 32 (q : Int) &&& BitVec.ofInt 32 15).toNat = ((q : Int) % ((2 ^ 32 : Nat) : Int)).toNat % 2 ^ 4 := by
    rw [BitVec.toNat_and, BitVec.toNat_ofInt, h15, Nat.and_two_pow_sub_one_eq_mod]
  show IntKind.i32.wrap ((BitVec.ofInt 32 (q : Int) &&& BitVec.ofInt 32 15).toNat : Nat) = _
  rw [key, IntKind.wrap_i32]
  omega
def DIG : ByteArray := ⟨#[48, 49, 50, 51, 52, 53, 54, 55, 56, 57, 97, 98, 99, 100, 101, 102]⟩
theorem slice_dig (d : Nat) (hd : d < 16) (w : World) : (Instr.slice 9 (.string ⟨#[48, 49, 50, 51, 52, 53, 54, 55, 56, 57, 97, 98, 99, 100, 101, 102]⟩) (some (.int .i32 (d : Int))) (some (.int .i32 ((d : Int) + 1))) none).run Tryd.prog w = .ok (.string (BA [dig d])) w := by
  have e : DIG.extract d (d + 1) = BA [dig d] := by
    have : d = 0 ∨ d = 1 ∨ d = 2 ∨ d = 3 ∨ d = 4 ∨ d = 5 ∨ d = 6 ∨ d = 7 ∨ d = 8 ∨ d = 9 ∨ d = 10 ∨ d = 11 ∨ d = 12 ∨ d = 13 ∨ d = 14 ∨ d = 15 := by omega
    rcases this with rfl | rfl | rfl | rfl | rfl | rfl | rfl | rfl | rfl | rfl | rfl | rfl | rfl | rfl | rfl | rfl <;> rfl
  have h := run_slice_string (P := Tryd.prog) w 9 DIG .i32 .i32 (d : Int) ((d : Int) + 1) Tryd.underlying9 (by omega) (by omega) (by show (d : Int) + 1 ≤ 16; omega)
  rw [show ((d : Int) + 1).toNat = d + 1 by omega, Int.toNat_natCast, e] at h
  exact h

def nums : Nat → Nat → Bs
  | 0, _ => []
  | k + 1, v => dig (v / 16 ^ k % 16) :: nums k v

theorem nums_length : ∀ (k v : Nat), (nums k v).length = k := by
  intro k
  induction k with
  | zero => intro v; rfl
  | succ k ih => intro v; simp [nums, ih]
theorem BA_append (a b : Bs) : BA a ++ BA b = BA (a ++ b) := by
  apply ByteArray.ext
  simp [BA]
theorem BA_size (a : Bs) : (BA a).size = a.length := by simp [BA, ByteArray.size]

set_option maxHeartbeats 400000 in
set_option maxRecDepth 100000 in
theorem number_ok (v n : Nat) (w : World) (hv : v < 2147483648) (hn : n ≤ 8) :
    Calls Tryd.prog 23 #[.int .i32 v, .int .i64 n] w fun e w' => e = .returned (.string (BA (nums n v))) ∧ w' = w := by
  go_enter Tryd.func23, Tryd.ntmps23
  go_wp2_with fail
  go_loop [0, 5, 7] (fun v0 v5 v7 => ∃ k : Nat, k ≤ n ∧ v7 = .int .i64 k ∧ v5 = .string (BA (nums k v)) ∧ v0 = .int .i32 ((v / 16 ^ k : Nat) : Int)) (fun _ _ v => n - (intOf v).toNat)
  case atStart => exact ⟨0, by omega, rfl, rfl, by simp⟩
  case round =>
    obtain ⟨k, hk, rfl, rfl, rfl⟩ := hrel
    by_cases hlt : k < n
    · have hb : v / 16 ^ k < 2147483648 := Nat.lt_of_le_of_lt (Nat.div_le_self _ _) hv
      have hbit := and15 (v / 16 ^ k) hb
      have hd : v / 16 ^ k % 16 < 16 := Nat.mod_lt _ (by omega)
      have HS := Lib.hid (show nums (k + 1) v = [dig (v / 16 ^ k % 16)] ++ nums k v from rfl)
      have HQ := Lib.hid (show v / 16 ^ (k + 1) = v / 16 ^ k / 16 by rw [Nat.pow_succ, Nat.div_div_eq_div_mul])
      have hsz : (BA [dig (v / 16 ^ k % 16)]).size + (BA (nums k v)).size ≤ 9223372036854775807 := by rw [BA_size, BA_size, nums_length]; show 1 + k ≤ _; omega
      generalize v / 16 ^ k = q at *
      generalize q % 16 = d at *
      have hsl := slice_dig d hd w
      go_wp2_with fail
      go_round
      case rel => exact ⟨k + 1, by omega, by go_num, by rw [BA_append, HS.out], by rw [HQ.out]; go_num⟩
      case measure => simp [intOf]; omega
    · have : k = n := by omega
      subst this
      go_wp2_with fail
      go_ret
      exact ⟨rfl, rfl⟩

theorem encode_enc (v : Nat) (h1 : v ≤ 1114111) (h2 : ¬ (55296 ≤ v ∧ v < 57344)) : Utf8.encode (v : Int) = BA (enc v) := by
  have hv : Utf8.valid (v : Int) = true := by rw [valid_iff]; simp; omega
  unfold Utf8.encode enc
  simp only [hv, if_true, Int.toNat_natCast]
  split
  · rfl
  · split
    · rfl
    · split <;> rfl
theorem hex2_nums (v : Nat) : nums 2 v = hex2 v := by simp [nums, hex2]
theorem hex4_nums (v : Nat) : nums 4 v = hex4 v := by simp [nums, hex4]
theorem beq_false (v c : Nat) (h : v ≠ c) : ((v : Int) == (c : Int)) = false := beq_eq_false_iff_ne.2 (by omega)

set_option maxHeartbeats 400000 in
set_option maxRecDepth 100000 in
theorem told_ok (v : Nat) (w : World) (h1 : v ≤ 1114111) (h2 : ¬ (55296 ≤ v ∧ v < 57344)) :
    Calls Tryd.prog 24 #[.int .i32 v] w fun e w' => e = .returned (.string (BA (told v (enc v)))) ∧ w' = w := by
  by_cases c34 : v = 34
  · subst c34
    go_enter Tryd.func24, Tryd.ntmps24
    go_wp2_with fail
    go_ret
    exact ⟨rfl, rfl⟩
  by_cases c92 : v = 92
  · subst c92
    go_enter Tryd.func24, Tryd.ntmps24
    go_wp2_with fail
    go_ret
    exact ⟨rfl, rfl⟩
  by_cases c10 : v = 10
  · subst c10
    go_enter Tryd.func24, Tryd.ntmps24
    go_wp2_with fail
    go_ret
    exact ⟨rfl, rfl⟩
  by_cases c9 : v = 9
  · subst c9
    go_enter Tryd.func24, Tryd.ntmps24
    go_wp2_with fail
    go_ret
    exact ⟨rfl, rfl⟩
  by_cases c0 : v = 0
  · subst c0
    go_enter Tryd.func24, Tryd.ntmps24
    go_wp2_with fail
    go_ret
    exact ⟨rfl, rfl⟩
  have ht : told v (enc v) = if ctrl v then [92, 120] ++ hex2 v else if odd v then [92, 117] ++ hex4 v else enc v := by
    unfold told; rw [if_neg c34, if_neg c92, if_neg c10, if_neg c9, if_neg c0]
  obtain ⟨x, hx⟩ : ∃ x : Int, x = (v : Int) := ⟨_, rfl⟩
  rw [← hx]
  have e34 : (x == 34) = false := beq_eq_false_iff_ne.2 (by omega)
  have e92 : (x == 92) = false := beq_eq_false_iff_ne.2 (by omega)
  have e10 : (x == 10) = false := beq_eq_false_iff_ne.2 (by omega)
  have e9 : (x == 9) = false := beq_eq_false_iff_ne.2 (by omega)
  have e0 : (x == 0) = false := beq_eq_false_iff_ne.2 (by omega)
  have hn2 : (BA [92, 120]).size + (BA (nums 2 v)).size ≤ 9223372036854775807 := by rw [BA_size, BA_size, nums_length]; decide
  have hn4 : (BA [92, 117]).size + (BA (nums 4 v)).size ≤ 9223372036854775807 := by rw [BA_size, BA_size, nums_length]; decide
  have HNUM := Aside.mk (fun (n : Nat) (W : World) (hn : n ≤ 8) => number_ok v n W (by omega) hn)
  rw [← hx] at HNUM
  by_cases q1 : v < 32
  · have hc : told v (enc v) = [92, 120] ++ nums 2 v := by rw [ht, if_pos (by simp [ctrl, q1]), hex2_nums]
    have HC := Aside.mk hc
    have g1 : x < 32 := by omega
    clear hc ht hn4 h1 h2 hx c34 c92 c10 c9 c0 q1
    go_enter Tryd.func24, Tryd.ntmps24
    go_wp2_with (go_at_call 23; refine (HNUM.out 2 _ (by omega)).mono ?_; rintro e w' ⟨rfl, rfl⟩)
    go_ret
    exact ⟨by rw [HC.out, ← BA_append]; rfl, rfl⟩
  by_cases q2 : v = 127
  · subst q2
    have HC := Aside.mk (show told 127 (enc 127) = [92, 120] ++ nums 2 127 by rfl)
    subst hx
    clear ht hn4 e34 e92 e10 e9 e0 HNUM
    go_enter Tryd.func24, Tryd.ntmps24
    go_wp2_with (go_at_call 23; refine (number_ok 127 2 _ (by omega) (by omega)).mono ?_; rintro e w' ⟨rfl, rfl⟩)
    go_ret
    exact ⟨by rw [HC.out, ← BA_append]; rfl, rfl⟩
  have e127 : (x == 127) = false := beq_eq_false_iff_ne.2 (by omega)
  have hnc : ctrl v = false := by simp [ctrl]; omega
  have g1 : 32 ≤ x := by omega
  by_cases q3 : 128 ≤ v ∧ v < 160
  · have hc : told v (enc v) = [92, 117] ++ nums 4 v := by rw [ht, hnc, if_neg (by simp), if_pos (by simp [odd, q3]), hex4_nums]
    have HC := Aside.mk hc
    have g2 : 128 ≤ x := by omega
    have g3 : x ≤ 159 := by omega
    clear hc ht hn2 q1 q2 q3 hnc h1 h2 hx c34 c92 c10 c9 c0
    go_enter Tryd.func24, Tryd.ntmps24
    go_wp2_with (go_at_call 23; refine (HNUM.out 4 _ (by omega)).mono ?_; rintro e w' ⟨rfl, rfl⟩)
    go_ret
    exact ⟨by rw [HC.out, ← BA_append]; rfl, rfl⟩
  by_cases k8232 : v = 8232
  · subst k8232
    have HC := Aside.mk (show told 8232 (enc 8232) = [92, 117] ++ nums 4 8232 by rfl)
    subst hx
    clear ht hn2 e34 e92 e10 e9 e0 e127 hnc q3 q2 q1 h1 h2 HNUM g1
    go_enter Tryd.func24, Tryd.ntmps24
    go_wp2_with (go_at_call 23; refine (number_ok 8232 4 _ (by omega) (by omega)).mono ?_; rintro e w' ⟨rfl, rfl⟩)
    go_ret
    exact ⟨by rw [HC.out, ← BA_append]; rfl, rfl⟩
  by_cases k8233 : v = 8233
  · subst k8233
    have HC := Aside.mk (show told 8233 (enc 8233) = [92, 117] ++ nums 4 8233 by rfl)
    subst hx
    clear ht hn2 e34 e92 e10 e9 e0 e127 hnc q3 q2 q1 h1 h2 HNUM g1
    go_enter Tryd.func24, Tryd.ntmps24
    go_wp2_with (go_at_call 23; refine (number_ok 8233 4 _ (by omega) (by omega)).mono ?_; rintro e w' ⟨rfl, rfl⟩)
    go_ret
    exact ⟨by rw [HC.out, ← BA_append]; rfl, rfl⟩
  by_cases k65279 : v = 65279
  · subst k65279
    have HC := Aside.mk (show told 65279 (enc 65279) = [92, 117] ++ nums 4 65279 by rfl)
    subst hx
    clear ht hn2 e34 e92 e10 e9 e0 e127 hnc q3 q2 q1 h1 h2 HNUM g1
    go_enter Tryd.func24, Tryd.ntmps24
    go_wp2_with (go_at_call 23; refine (number_ok 65279 4 _ (by omega) (by omega)).mono ?_; rintro e w' ⟨rfl, rfl⟩)
    go_ret
    exact ⟨by rw [HC.out, ← BA_append]; rfl, rfl⟩
  have e8232 : (x == 8232) = false := beq_eq_false_iff_ne.2 (by omega)
  have e8233 : (x == 8233) = false := beq_eq_false_iff_ne.2 (by omega)
  have e65279 : (x == 65279) = false := beq_eq_false_iff_ne.2 (by omega)
  have hno : odd v = false := by simp [odd, k8232, k8233, k65279]; omega
  have hc : told v (enc v) = enc v := by rw [ht, hnc, hno]; rfl
  have HC := Aside.mk hc
  have henc := Aside.mk (encode_enc v h1 h2)
  rw [← hx] at henc
  have q8 : x < 128 ∨ 160 ≤ x := by omega
  clear hc ht hn2 hn4 hnc hno k8232 k8233 k65279 q2 q1 q3 h1 h2 hx c34 c92 c10 c9 c0 HNUM
  rcases q8 with q5 | q5
  all_goals
    try (have q6 : 128 ≤ x := by omega)
    go_enter Tryd.func24, Tryd.ntmps24
    go_wp2_with fail
    go_ret
    exact ⟨by rw [HC.out, ← henc.out]; rfl, rfl⟩
end Go.Proofs.YtanimkkljbadpaaDoor
