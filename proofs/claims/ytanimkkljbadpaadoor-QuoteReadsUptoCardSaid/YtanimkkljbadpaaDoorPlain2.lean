/- Texts told as lines, and read back: the plain part. No program in sight. -/
import Derived.Test.YtanimkkljbadpaaDoorPlain
set_option linter.unusedVariables false
set_option linter.unusedSimpArgs false
namespace Go.Proofs.YtanimkkljbadpaaDoor.Q

/-- A digit of a number to the base 16. -/
def dig (d : Nat) : UInt8 := UInt8.ofNat (if d < 10 then 48 + d else 87 + d)
def hex2 (v : Nat) : Bs := [dig (v / 16 % 16), dig (v % 16)]
def hex4 (v : Nat) : Bs := [dig (v / 4096 % 16), dig (v / 256 % 16), dig (v / 16 % 16), dig (v % 16)]
def ctrl (v : Nat) : Bool := decide (v < 32) || decide (v = 127)
def odd (v : Nat) : Bool := (decide (128 ≤ v) && decide (v < 160)) || decide (v = 8232) || decide (v = 8233) || decide (v = 65279)
/-- What a rune is told as, raw being its own bytes. -/
def told (v : Nat) (raw : Bs) : Bs :=
  if v = 34 then [92, 34] else if v = 92 then [92, 92] else if v = 10 then [92, 110] else if v = 9 then [92, 116] else if v = 0 then [92, 48]
  else if ctrl v then [92, 120] ++ hex2 v else if odd v then [92, 117] ++ hex4 v else raw
/-- What a piece is told as. -/
def tell (t : Bs) : Bs := if (dec t).2 = 0 then [92, 120] ++ hex2 (t.headD 0).toNat else told (dec t).1 t
def body (l : Bs) : Bs := (toks l).flatMap tell
def quote (l : Bs) : Bs := 34 :: (body l ++ [34])

theorem body_nil : body [] = [] := rfl
theorem body_cons {l : Bs} (h : l ≠ []) : body l = tell (l.take (tokLen l)) ++ body (l.drop (tokLen l)) := by
  unfold body; rw [toks_cons h, List.flatMap_cons]

/-- The number of a digit. -/
def undig (b : UInt8) : Option Nat := if 48 ≤ b.toNat ∧ b.toNat ≤ 57 then some (b.toNat - 48) else if 97 ≤ b.toNat ∧ b.toNat ≤ 102 then some (b.toNat - 87) else none
theorem undig_dig (d : Nat) (h : d < 16) : undig (dig d) = some d := by
  have : d = 0 ∨ d = 1 ∨ d = 2 ∨ d = 3 ∨ d = 4 ∨ d = 5 ∨ d = 6 ∨ d = 7 ∨ d = 8 ∨ d = 9 ∨ d = 10 ∨ d = 11 ∨ d = 12 ∨ d = 13 ∨ d = 14 ∨ d = 15 := by omega
  rcases this with rfl | rfl | rfl | rfl | rfl | rfl | rfl | rfl | rfl | rfl | rfl | rfl | rfl | rfl | rfl | rfl <;> rfl
/-- The number of so many digits. -/
def undigs : Nat → Bs → Nat → Option Nat
  | 0, _, v => some v
  | n + 1, [], _ => none
  | n + 1, b :: t, v => match undig b with | some d => undigs n t (16 * v + d) | none => none
theorem undigs2 (v : Nat) (h : v < 256) (r : Bs) : undigs 2 (hex2 v ++ r) 0 = some v := by
  simp only [hex2, List.cons_append, undigs, undig_dig _ (Nat.mod_lt _ (by omega : 0 < 16))]
  congr 1; omega
theorem undigs4 (v : Nat) (h : v < 65536) (r : Bs) : undigs 4 (hex4 v ++ r) 0 = some v := by
  simp only [hex4, List.cons_append, undigs, undig_dig _ (Nat.mod_lt _ (by omega : 0 < 16))]
  congr 1; omega

/-- The bytes of a rune that is one. -/
def enc (v : Nat) : Bs :=
  if v < 128 then [UInt8.ofNat v]
  else if v < 2048 then [UInt8.ofNat (192 + v / 64), UInt8.ofNat (128 + v % 64)]
  else if v < 65536 then [UInt8.ofNat (224 + v / 4096), UInt8.ofNat (128 + v / 64 % 64), UInt8.ofNat (128 + v % 64)]
  else [UInt8.ofNat (240 + v / 262144), UInt8.ofNat (128 + v / 4096 % 64), UInt8.ofNat (128 + v / 64 % 64), UInt8.ofNat (128 + v % 64)]

theorem byte_eq (b : UInt8) (n : Nat) (h : b.toNat = n) : UInt8.ofNat n = b := by subst h; simp
/-- A rune's bytes are the ones that it was read from. -/
theorem enc_kind {l : Bs} {v n : Nat} (h : Kind l v n) : enc v = l.take n ∧ (v < 128 ↔ n = 1) ∧ v ≤ 1114111 ∧ ¬ (55296 ≤ v ∧ v < 57344) := by
  cases h with
  | one b0 t h => simp [enc, h]; omega
  | two b0 b1 t h h1 =>
    rw [isCont_iff] at h1
    have hv : v2 b0.toNat b1 = 64 * (b0.toNat - 192) + (b1.toNat - 128) := rfl
    have a1 : ¬ v2 b0.toNat b1 < 128 := by rw [hv]; omega
    have a2 : v2 b0.toNat b1 < 2048 := by rw [hv]; omega
    refine ⟨?_, by omega, by omega, by omega⟩
    unfold enc
    rw [if_neg a1, if_pos a2, byte_eq b0 _ (by rw [hv]; omega), byte_eq b1 _ (by rw [hv]; omega)]
    rfl
  | three b0 b1 b2 t h h1 h2 hh =>
    rw [isCont_iff] at h1 h2
    have hv : v3 b0.toNat b1 b2 = 64 * (64 * (b0.toNat - 224) + (b1.toNat - 128)) + (b2.toNat - 128) := rfl
    have a1 : ¬ v3 b0.toNat b1 b2 < 128 := by omega
    have a2 : ¬ v3 b0.toNat b1 b2 < 2048 := by omega
    have a3 : v3 b0.toNat b1 b2 < 65536 := by rw [hv]; omega
    refine ⟨?_, by omega, by omega, by omega⟩
    unfold enc
    rw [if_neg a1, if_neg a2, if_pos a3, byte_eq b0 _ (by rw [hv]; omega), byte_eq b1 _ (by rw [hv]; omega), byte_eq b2 _ (by rw [hv]; omega)]
    rfl
  | four b0 b1 b2 b3 t h h1 h2 h3 hh =>
    rw [isCont_iff] at h1 h2 h3
    have hv : v4 b0.toNat b1 b2 b3 = 64 * (64 * (64 * (b0.toNat - 240) + (b1.toNat - 128)) + (b2.toNat - 128)) + (b3.toNat - 128) := rfl
    have a1 : ¬ v4 b0.toNat b1 b2 b3 < 128 := by omega
    have a2 : ¬ v4 b0.toNat b1 b2 b3 < 2048 := by omega
    have a3 : ¬ v4 b0.toNat b1 b2 b3 < 65536 := by omega
    refine ⟨?_, by omega, by omega, by omega⟩
    unfold enc
    rw [if_neg a1, if_neg a2, if_neg a3, byte_eq b0 _ (by rw [hv]; omega), byte_eq b1 _ (by rw [hv]; omega), byte_eq b2 _ (by rw [hv]; omega), byte_eq b3 _ (by rw [hv]; omega)]
    rfl

def cont64 (l : Bs) (k : Nat) : Bool := decide (k < l.length) && ((l.getD k 0).toNat / 64 == 2)
/-- The model's decoding of what stands at a place, over the list that begins there. -/
def decM (l : Bs) : Nat × Nat :=
  let b0 := (l.getD 0 0).toNat
  if b0 < 0x80 then (b0, 1)
  else if b0 / 32 == 6 && cont64 l 1 then
    let c := (b0 % 32) * 64 + (l.getD 1 0).toNat % 64
    if c ≥ 0x80 then (c, 2) else (65533, 1)
  else if b0 / 16 == 14 && cont64 l 1 && cont64 l 2 then
    let c := (b0 % 16) * 4096 + ((l.getD 1 0).toNat % 64) * 64 + (l.getD 2 0).toNat % 64
    if c ≥ 0x800 && Utf8.valid c then (c, 3) else (65533, 1)
  else if b0 / 8 == 30 && cont64 l 1 && cont64 l 2 && cont64 l 3 then
    let c := (b0 % 8) * 262144 + ((l.getD 1 0).toNat % 64) * 4096 + ((l.getD 2 0).toNat % 64) * 64 + (l.getD 3 0).toNat % 64
    if c ≥ 0x10000 && Utf8.valid c then (c, 4) else (65533, 1)
  else (65533, 1)

theorem get_drop (s : ByteArray) (i k : Nat) : s.get! (i + k) = (s.data.toList.drop i).getD k 0 := by
  have h1 : s.get! (i + k) = s.data[i + k]! := rfl
  rw [h1]
  by_cases h : i + k < s.data.size
  · rw [getElem!_pos s.data (i + k) h]
    simp [List.getD, List.getElem?_drop, Array.getElem?_eq_getElem h]
  · rw [getElem!_neg s.data (i + k) h]
    simp [List.getD, List.getElem?_drop, Array.getElem?_eq_none (Nat.le_of_not_lt h)]
    rfl
theorem decode_decM (s : ByteArray) (i : Nat) : Utf8.decode s i = decM (s.data.toList.drop i) := by
  have hc : ∀ k, (decide (i + k < s.size) && ((s.get! (i + k)).toNat / 64 == 2)) = cont64 (s.data.toList.drop i) k := by
    intro k
    unfold cont64
    rw [get_drop]
    congr 1
    have : s.size = s.data.size := rfl
    simp only [List.length_drop, Array.length_toList, this, decide_eq_decide]
    omega
  unfold Utf8.decode decM
  simp only [hc]
  simp only [get_drop, Utf8.runeError]

theorem valid_iff (c : Nat) : Utf8.valid (c : Int) = decide (c < 55296 ∨ (57344 ≤ c ∧ c ≤ 1114111)) := by
  rw [Bool.eq_iff_iff]
  simp [Utf8.valid]
  omega
theorem cont_iff (b : UInt8) : (b.toNat / 64 == 2) = isCont b := by
  have := b.toNat_lt
  rw [Bool.eq_iff_iff, isCont_iff, beq_iff_eq]
  omega

theorem decM_dec (l : Bs) (h : l ≠ []) : decM l = if (dec l).2 = 0 then (65533, 1) else dec l := by
  match l, h with
  | b0 :: t, _ =>
    have hb0 := b0.toNat_lt
    by_cases c1 : b0.toNat < 128
    · rw [dec_ascii b0 t c1]
      simp [decM, c1]
    · have e32 : (b0.toNat / 32 == 6) = decide (192 ≤ b0.toNat ∧ b0.toNat < 224) := by rw [Bool.eq_iff_iff]; simp; omega
      have e16 : (b0.toNat / 16 == 14) = decide (224 ≤ b0.toNat ∧ b0.toNat < 240) := by rw [Bool.eq_iff_iff]; simp; omega
      have e8 : (b0.toNat / 8 == 30) = decide (240 ≤ b0.toNat ∧ b0.toNat < 248) := by rw [Bool.eq_iff_iff]; simp; omega
      have hk : ∀ k, cont64 (b0 :: t) (k + 1) = (decide (k < t.length) && isCont (t.getD k 0)) := by
        intro k; unfold cont64; rw [show (b0 :: t).getD (k + 1) 0 = t.getD k 0 from rfl, cont_iff]; simp
      unfold decM
      simp only [show (b0 :: t).getD 0 0 = b0 from rfl, show (b0 :: t).getD 1 0 = t.getD 0 0 from rfl, show (b0 :: t).getD 2 0 = t.getD 1 0 from rfl, show (b0 :: t).getD 3 0 = t.getD 2 0 from rfl, show cont64 (b0 :: t) 1 = _ from hk 0, show cont64 (b0 :: t) 2 = _ from hk 1, show cont64 (b0 :: t) 3 = _ from hk 2, e32, e16, e8]
      rw [if_neg c1]
      clear e32 e16 e8 hk
      by_cases c2 : 192 ≤ b0.toNat ∧ b0.toNat < 224
      · have n3 : ¬ (224 ≤ b0.toNat ∧ b0.toNat < 240) := by omega
        have n4 : ¬ (240 ≤ b0.toNat ∧ b0.toNat < 248) := by omega
        have n4' : ¬ (240 ≤ b0.toNat ∧ b0.toNat < 245) := by omega
        match t with
        | [] => simp [dec, c1, c2, n3, n4, n4']
        | b1 :: t =>
          by_cases k1 : isCont b1 = true
          · have hb := (isCont_iff _).1 k1
            simp only [List.getD_cons_zero, List.length_cons, k1, c2, decide_true, Bool.and_true, Bool.true_and]
            rw [if_pos (by simp)]
            by_cases q : 194 ≤ b0.toNat
            · rw [dec_of_kind (Kind.two b0 b1 t ⟨q, c2.2⟩ k1), if_pos (by omega), if_neg (by simp)]
              unfold v2
              exact Prod.ext (by simp; omega) rfl
            · rw [if_neg (by omega)]
              simp [dec, c1, n3, n4', q]
          · simp [dec, c1, c2, n3, n4, n4', k1]
      · have m2 : ¬ (194 ≤ b0.toNat ∧ b0.toNat < 224) := by omega
        by_cases c3 : 224 ≤ b0.toNat ∧ b0.toNat < 240
        · have n4 : ¬ (240 ≤ b0.toNat ∧ b0.toNat < 248) := by omega
          match t with
          | [] => simp [dec, c1, c2, c3, m2, n4]
          | [b1] => simp [dec, c1, c2, c3, m2, n4]
          | b1 :: b2 :: t =>
            by_cases k : isCont b1 = true ∧ isCont b2 = true
            · obtain ⟨k1, k2⟩ := k
              have hb1 := (isCont_iff _).1 k1
              have hb2 := (isCont_iff _).1 k2
              have hc : b0.toNat % 16 * 4096 + b1.toNat % 64 * 64 + b2.toNat % 64 = v3 b0.toNat b1 b2 := by unfold v3; omega
              have hb : v3 b0.toNat b1 b2 < 65536 := by unfold v3; omega
              simp only [List.getD_cons_zero, List.getD_cons_succ, List.length_cons, k1, k2, c2, c3, decide_true, decide_false, Bool.and_true, Bool.true_and, Bool.false_and, hc, valid_iff]
              rw [if_neg (by simp), if_pos (by simp)]
              by_cases hv : v3 b0.toNat b1 b2 < 2048 ∨ (55296 ≤ v3 b0.toNat b1 b2 ∧ v3 b0.toNat b1 b2 < 57344)
              · rw [if_neg (by simp; omega)]
                simp [dec, c1, m2, c3, k1, k2, hv]
              · rw [if_pos (by simp; omega), dec_of_kind (Kind.three b0 b1 b2 t c3 k1 k2 hv), if_neg (by simp)]
            · have : (isCont b1 && isCont b2) = false := by
                cases h1 : isCont b1 <;> cases h2 : isCont b2 <;> simp_all
              simp [dec, c1, c2, c3, m2, n4, this]
        · by_cases c4 : 240 ≤ b0.toNat ∧ b0.toNat < 248
          · match t with
            | [] => simp [dec, c1, c2, c3, m2, c4]
            | [b1] => simp [dec, c1, c2, c3, m2, c4]
            | [b1, b2] => simp [dec, c1, c2, c3, m2, c4]
            | b1 :: b2 :: b3 :: t =>
              by_cases k : isCont b1 = true ∧ isCont b2 = true ∧ isCont b3 = true
              · obtain ⟨k1, k2, k3⟩ := k
                have hb1 := (isCont_iff _).1 k1
                have hb2 := (isCont_iff _).1 k2
                have hb3 := (isCont_iff _).1 k3
                have hc : b0.toNat % 8 * 262144 + b1.toNat % 64 * 4096 + b2.toNat % 64 * 64 + b3.toNat % 64 = v4 b0.toNat b1 b2 b3 := by unfold v4; omega
                simp only [List.getD_cons_zero, List.getD_cons_succ, List.length_cons, k1, k2, k3, c2, c3, c4, decide_true, decide_false, Bool.and_true, Bool.true_and, Bool.false_and, hc, valid_iff]
                rw [if_neg (by simp), if_neg (by simp), if_pos (by simp)]
                by_cases hv : v4 b0.toNat b1 b2 b3 < 65536 ∨ 1114111 < v4 b0.toNat b1 b2 b3
                · rw [if_neg (by simp; omega)]
                  simp [dec, c1, m2, c3, k1, k2, k3, hv]
                · have h5 : b0.toNat < 245 := by unfold v4 at hv; omega
                  rw [if_pos (by simp; omega), dec_of_kind (Kind.four b0 b1 b2 b3 t ⟨c4.1, h5⟩ k1 k2 k3 hv), if_neg (by simp)]
              · have : (isCont b1 && isCont b2 && isCont b3) = false := by
                  cases h1 : isCont b1 <;> cases h2 : isCont b2 <;> cases h3 : isCont b3 <;> simp_all
                simp [dec, c1, c2, c3, m2, c4, this]
          · have n4' : ¬ (240 ≤ b0.toNat ∧ b0.toNat < 245) := by omega
            simp [dec, c1, c2, c3, m2, c4, n4']
theorem decode_dec (s : ByteArray) (i : Nat) (h : i < s.size) : Utf8.decode s i = if (dec (s.data.toList.drop i)).2 = 0 then (65533, 1) else dec (s.data.toList.drop i) := by
  rw [decode_decM]
  refine decM_dec _ (fun e => ?_)
  have := congrArg List.length e
  have h2 : s.size = s.data.size := rfl
  simp at this
  omega
end Go.Proofs.YtanimkkljbadpaaDoor.Q
