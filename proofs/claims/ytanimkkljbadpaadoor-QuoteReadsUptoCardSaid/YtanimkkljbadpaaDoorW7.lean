/- Walk: one. -/
import Derived.Test.YtanimkkljbadpaaDoorW6
import Derived.Deep.WholeRow
set_option linter.unusedVariables false
set_option linter.unusedSimpArgs false
namespace Go.Proofs.YtanimkkljbadpaaDoor
open Go.Shelf Go.RowKit Q

def eP (v : Nat) : Bs := if 55296 ≤ v ∧ v < 57344 then [239, 191, 189] else enc v
theorem eP_encode (v : Nat) (h1 : v ≤ 1114111) : Utf8.encode (v : Int) = BA (eP v) := by
  by_cases h : 55296 ≤ v ∧ v < 57344
  · have he : eP v = [239, 191, 189] := by unfold eP; rw [if_pos h]
    rw [he]
    have hv : Utf8.valid (v : Int) = false := by
      rw [Bool.eq_false_iff]; intro hc; rw [valid_iff] at hc; simp at hc; omega
    unfold Utf8.encode
    simp only [hv, Bool.false_eq_true, if_false, show Utf8.runeError = 65533 from rfl]
    rw [if_neg (by decide), if_neg (by decide), if_pos (by decide)]
    rfl
  · rw [encode_enc v h1 h]; unfold eP; rw [if_neg h]
def oneP (l : Bs) : Bs × Nat := oneG tokLen eP l
theorem LS_BA (l : Bs) : LS (BA l) = l := by simp [BA]
theorem BA_LS (s : ByteArray) : BA (LS s) = s := by simp [BA]
theorem fairP_w (l : Bs) (h : (dec l).2 ≠ 0) : tokLen l = (dec l).2 := by unfold tokLen; rw [if_neg h]
theorem fairP_e (v : Nat) (h1 : v < 65536) (h2 : ¬ (55296 ≤ v ∧ v < 57344)) : eP v = enc v := by unfold eP; rw [if_neg h2]
theorem fairP : Q.Fair tokLen eP := ⟨fairP_w, fairP_e⟩
def OnePost (s : ByteArray) (w : World) (e : Ending) (w' : World) : Prop := e = .returned (.tuple #[.string (BA (oneP (LS s)).1), .int .i64 (oneP (LS s)).2]) ∧ Below w.heap.size w w'
theorem str_one (W : World) (v : Nat) : (convert 38 9 (.slice (some ⟨W.heap.size, 0, none⟩) 1 1)).run Tryd.prog (W.alloc (.cells #[.int .u8 (v : Int)] 5)) = .ok (.string (BA [UInt8.ofNat v])) (W.alloc (.cells #[.int .u8 (v : Int)] 5)) := by
  have h := run_loadCellsFrom_new (P := Tryd.prog) W 5 #[.int .u8 (v : Int)] 1 rfl
  rw [run_convert_bytes_string _ 38 9 5 _ 1 1 Tryd.underlying38 Tryd.underlying5 Tryd.underlying9, run_bytesToString _ _ 1 1 [(v : Int)] h]
  simp only [List.foldl_cons, List.foldl_nil, Int.toNat_natCast]
  rfl
theorem undigs_bound : ∀ (n : Nat) (l : Bs) (v r : Nat), undigs n l v = some r → r + 1 ≤ 16 ^ n * (v + 1) := by
  intro n
  induction n with
  | zero => intro l v r h; simp [undigs] at h; omega
  | succ n ih =>
    intro l v r h
    cases l with
    | nil => simp [undigs] at h
    | cons b t =>
      simp only [undigs] at h
      split at h
      · rename_i d hd
        have := undig_lt hd
        have h1 := ih _ _ _ h
        have h2 : 16 ^ n * (16 * v + d + 1) ≤ 16 ^ n * (16 * (v + 1)) := Nat.mul_le_mul_left _ (by omega)
        rw [Nat.pow_succ, Nat.mul_assoc]
        omega
      · simp at h

set_option maxHeartbeats 1000000 in
set_option maxRecDepth 100000 in
theorem one_ok (s : ByteArray) (w : World) (hT : Tabs w) (hs : 0 < s.size) : Calls Tryd.prog 20 #[.string s] w (OnePost s w) := by
  have HT := Aside.mk hT
  have hhd := head_at s 0 hs
  have hL := LS_length s
  rw [List.drop_zero] at hhd
  by_cases c0 : (s[0]).toNat = 92
  · by_cases h2 : s.size < 2
    · have HP : Aside (oneP (LS s) = ([], 0)) := ⟨by
        have h3 : (LS s).drop 1 = [] := List.drop_eq_nil_of_le (by omega)
        unfold oneP; rw [hhd, h3]; simp only [oneG, c0, ne_eq, not_true_eq_false, if_false]⟩
      have HS : Aside (OnePost s w = fun e w' => e = .returned (.tuple #[.string (BA []), .int .i64 0]) ∧ Below w.heap.size w w') := ⟨by
        unfold OnePost; rw [HP.out]; rfl⟩
      rw [HS.out]
      clear hhd hL
      go_enter Tryd.func20, Tryd.ntmps20
      go_wp2_with fail
      go_ret2
      exact ⟨rfl, Below.refl _ _⟩
    have hs2 : 1 < s.size := by omega
    have hh2 := head_at s 1 hs2
    have HP : Aside (oneP (LS s) = (if (s[1]'hs2).toNat = 34 ∨ (s[1]'hs2).toNat = 92 then ([s[1]'hs2], 2)
        else if (s[1]'hs2).toNat = 110 then ([10], 2)
        else if (s[1]'hs2).toNat = 116 then ([9], 2)
        else if (s[1]'hs2).toNat = 48 then ([0], 2)
        else if (s[1]'hs2).toNat = 120 then (match undigs 2 ((LS s).drop 2) 0 with | some v => ([UInt8.ofNat v], 4) | none => ([], 0))
        else if (s[1]'hs2).toNat = 117 then (match undigs 4 ((LS s).drop 2) 0 with | some v => (eP v, 6) | none => ([], 0))
        else ([], 0))) := ⟨by
      unfold oneP; rw [hhd, hh2]; simp only [oneG, c0, ne_eq, not_true_eq_false, if_false]; rfl⟩
    have hs3 : 2 ≤ s.size := by omega
    clear hhd hh2
    by_cases k1 : (s[1]).toNat = 34 ∨ (s[1]).toNat = 92
    · have HS : Aside (OnePost s w = fun e w' => e = .returned (.tuple #[.string (s.extract 1 2), .int .i64 2]) ∧ Below w.heap.size w w') := ⟨by
        unfold OnePost; rw [HP.out, if_pos k1]
        have : LS (s.extract 1 2) = [s[1]] := by
          have := head_at s 1 hs2
          simp only [LS, ByteArray.data_extract, Array.toList_extract, List.extract_eq_take_drop]
          rw [show s.data.toList.drop 1 = s[1] :: s.data.toList.drop 2 from this]
          rfl
        rw [← this, BA_LS]; rfl⟩
      rw [HS.out]
      rcases k1 with k1 | k1
      all_goals
        go_enter Tryd.func20, Tryd.ntmps20
        go_wp2_with fail
        go_ret2
        exact ⟨rfl, Below.refl _ _⟩
    rw [if_neg k1] at HP
    have k1a : ¬ (s[1]).toNat = 34 := fun h => k1 (.inl h)
    have k1b : ¬ (s[1]).toNat = 92 := fun h => k1 (.inr h)
    clear k1
    by_cases k2 : (s[1]).toNat = 110
    · have HS : Aside (OnePost s w = fun e w' => e = .returned (.tuple #[.string (BA [10]), .int .i64 2]) ∧ Below w.heap.size w w') := ⟨by
        unfold OnePost; rw [HP.out, if_pos k2]; rfl⟩
      rw [HS.out]
      go_enter Tryd.func20, Tryd.ntmps20
      go_wp2_with fail
      go_ret2
      exact ⟨rfl, Below.refl _ _⟩
    rw [if_neg k2] at HP
    by_cases k3 : (s[1]).toNat = 116
    · have HS : Aside (OnePost s w = fun e w' => e = .returned (.tuple #[.string (BA [9]), .int .i64 2]) ∧ Below w.heap.size w w') := ⟨by
        unfold OnePost; rw [HP.out, if_pos k3]; rfl⟩
      rw [HS.out]
      go_enter Tryd.func20, Tryd.ntmps20
      go_wp2_with fail
      go_ret2
      exact ⟨rfl, Below.refl _ _⟩
    rw [if_neg k3] at HP
    by_cases k4 : (s[1]).toNat = 48
    · have HS : Aside (OnePost s w = fun e w' => e = .returned (.tuple #[.string (BA [0]), .int .i64 2]) ∧ Below w.heap.size w w') := ⟨by
        unfold OnePost; rw [HP.out, if_pos k4]; rfl⟩
      rw [HS.out]
      go_enter Tryd.func20, Tryd.ntmps20
      go_wp2_with fail
      go_ret2
      exact ⟨rfl, Below.refl _ _⟩
    rw [if_neg k4] at HP
    have HX : Aside (LS (s.extract 2 s.size) = (LS s).drop 2) := ⟨LS_extract s 2 hs3⟩
    by_cases k5 : (s[1]).toNat = 120
    · rw [if_pos k5] at HP
      have HH := Aside.mk (hex_ok (s.extract 2 s.size) 2 w (by omega))
      unfold HexPost at HH
      rw [HX.out] at HH
      cases hu : undigs 2 ((LS s).drop 2) 0 with
      | some v =>
        have hb := undigs_bound _ _ _ _ hu
        have hv : v < 256 := by omega
        unfold hexV at HH
        rw [hu] at HP HH
        have HS : Aside (OnePost s w = fun e w' => e = .returned (.tuple #[.string (BA [UInt8.ofNat v]), .int .i64 4]) ∧ Below w.heap.size w w') := ⟨by
          unfold OnePost; rw [HP.out]; rfl⟩
        rw [HS.out]
        clear hu hb
        have kcv := fun (W : World) => str_one W v
        go_enter Tryd.func20, Tryd.ntmps20
        go_wp2_with (go_at_call 31; refine HH.out.mono ?_; rintro e w1 ⟨rfl, hb⟩; have HB := Aside.mk hb; clear hb)
        go_ret2
        exact ⟨rfl, HB.out.alloc HB.out.size _⟩
      | none =>
        unfold hexV at HH
        rw [hu] at HP HH
        have HS : Aside (OnePost s w = fun e w' => e = .returned (.tuple #[.string (BA []), .int .i64 0]) ∧ Below w.heap.size w w') := ⟨by
          unfold OnePost; rw [HP.out]; rfl⟩
        rw [HS.out]
        clear hu
        go_enter Tryd.func20, Tryd.ntmps20
        go_wp2_with (go_at_call 31; refine HH.out.mono ?_; rintro e w1 ⟨rfl, hb⟩; have HB := Aside.mk hb; clear hb)
        go_ret2
        exact ⟨rfl, HB.out⟩
    rw [if_neg k5] at HP
    by_cases k6 : (s[1]).toNat = 117
    · rw [if_pos k6] at HP
      have HH := Aside.mk (hex_ok (s.extract 2 s.size) 4 w (by omega))
      unfold HexPost at HH
      rw [HX.out] at HH
      cases hu : undigs 4 ((LS s).drop 2) 0 with
      | some v =>
        have hb := undigs_bound _ _ _ _ hu
        have hv : v < 65536 := by omega
        unfold hexV at HH
        rw [hu] at HP HH
        have HS : Aside (OnePost s w = fun e w' => e = .returned (.tuple #[.string (BA (eP v)), .int .i64 6]) ∧ Below w.heap.size w w') := ⟨by
          unfold OnePost; rw [HP.out]; rfl⟩
        rw [HS.out]
        have HE := Aside.mk (eP_encode v (by omega))
        rw [← HE.out]
        clear HE HS HP
        clear hu hb
        go_enter Tryd.func20, Tryd.ntmps20
        go_wp2_with (go_at_call 31; refine HH.out.mono ?_; rintro e w1 ⟨rfl, hb⟩; have HB := Aside.mk hb; clear hb)
        go_ret2
        exact ⟨rfl, HB.out⟩
      | none =>
        unfold hexV at HH
        rw [hu] at HP HH
        have HS : Aside (OnePost s w = fun e w' => e = .returned (.tuple #[.string (BA []), .int .i64 0]) ∧ Below w.heap.size w w') := ⟨by
          unfold OnePost; rw [HP.out]; rfl⟩
        rw [HS.out]
        clear hu
        go_enter Tryd.func20, Tryd.ntmps20
        go_wp2_with (go_at_call 31; refine HH.out.mono ?_; rintro e w1 ⟨rfl, hb⟩; have HB := Aside.mk hb; clear hb)
        go_ret2
        exact ⟨rfl, HB.out⟩
    rw [if_neg k6] at HP
    have HS : Aside (OnePost s w = fun e w' => e = .returned (.tuple #[.string (BA []), .int .i64 0]) ∧ Below w.heap.size w w') := ⟨by
      unfold OnePost; rw [HP.out]; rfl⟩
    rw [HS.out]
    go_enter Tryd.func20, Tryd.ntmps20
    go_wp2_with fail
    go_ret2
    exact ⟨rfl, Below.refl _ _⟩
  · have hsz : s.size ≠ 0 := by omega
    have hdg : (Lib.decodeGo s).2 = tokLen (LS s) := by
      unfold Lib.decodeGo
      rw [if_neg hsz, decode_dec _ 0 (by omega), List.drop_zero]
      unfold tokLen
      split <;> rfl
    have HP : Aside (oneP (LS s) = ((LS s).take (tokLen (LS s)), tokLen (LS s))) := ⟨by
      unfold oneP; rw [hhd]; simp only [oneG, if_pos c0, ← hhd]⟩
    have hle := tokLen_le (l := LS s) (by rw [hhd]; simp)
    rw [hL] at hle
    have HD := Aside.mk (Tryd.utf8_DecodeRuneInString s w HT.out)
    rw [hdg] at HD
    have HS : Aside (OnePost s w = fun e w' => e = .returned (.tuple #[.string (s.extract 0 (tokLen (LS s))), .int .i64 (tokLen (LS s))]) ∧ Below w.heap.size w w') := ⟨by
      unfold OnePost; rw [HP.out]; simp only []; rw [show BA ((LS s).take (tokLen (LS s))) = s.extract 0 (tokLen (LS s)) by rw [← LS_take, BA_LS]]⟩
    rw [HS.out]
    clear hhd hdg hL
    generalize tokLen (LS s) = n at *
    generalize (Lib.decodeGo s).1 = vv at *
    go_enter Tryd.func20, Tryd.ntmps20
    go_wp2_with (go_at_call 30; refine HD.out.mono ?_; rintro e w1 ⟨rfl, hb⟩)
    go_ret2
    exact ⟨rfl, hb⟩
end Go.Proofs.YtanimkkljbadpaaDoor
