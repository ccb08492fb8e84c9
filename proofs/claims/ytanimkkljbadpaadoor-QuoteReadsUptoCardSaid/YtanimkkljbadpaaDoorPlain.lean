/- Texts of any bytes, rune by rune: the plain part. No program in sight. -/
import GoSem.Core.Utf8
set_option linter.unusedVariables false
set_option linter.unusedSimpArgs false
namespace Go.Proofs.YtanimkkljbadpaaDoor.Q

abbrev Bs := List UInt8

def isCont (b : UInt8) : Bool := decide (128 ≤ b.toNat) && decide (b.toNat ≤ 191)
def v2 (c : Nat) (b1 : UInt8) : Nat := 64 * (c - 192) + (b1.toNat - 128)
def v3 (c : Nat) (b1 b2 : UInt8) : Nat := 64 * (64 * (c - 224) + (b1.toNat - 128)) + (b2.toNat - 128)
def v4 (c : Nat) (b1 b2 b3 : UInt8) : Nat := 64 * (64 * (64 * (c - 240) + (b1.toNat - 128)) + (b2.toNat - 128)) + (b3.toNat - 128)
/-- The rune that bytes begin with, and how many bytes it has; 0: none that is well formed. -/
def dec : Bs → Nat × Nat
  | [] => (0, 0)
  | b0 :: t =>
    if b0.toNat < 128 then (b0.toNat, 1)
    else if 194 ≤ b0.toNat ∧ b0.toNat < 224 then
      match t with
      | b1 :: _ => if isCont b1 then (v2 b0.toNat b1, 2) else (0, 0)
      | _ => (0, 0)
    else if 224 ≤ b0.toNat ∧ b0.toNat < 240 then
      match t with
      | b1 :: b2 :: _ => if isCont b1 && isCont b2 then (if v3 b0.toNat b1 b2 < 2048 ∨ (55296 ≤ v3 b0.toNat b1 b2 ∧ v3 b0.toNat b1 b2 < 57344) then (0, 0) else (v3 b0.toNat b1 b2, 3)) else (0, 0)
      | _ => (0, 0)
    else if 240 ≤ b0.toNat ∧ b0.toNat < 245 then
      match t with
      | b1 :: b2 :: b3 :: _ => if isCont b1 && isCont b2 && isCont b3 then (if v4 b0.toNat b1 b2 b3 < 65536 ∨ 1114111 < v4 b0.toNat b1 b2 b3 then (0, 0) else (v4 b0.toNat b1 b2 b3, 4)) else (0, 0)
      | _ => (0, 0)
    else (0, 0)

theorem isCont_iff (b : UInt8) : isCont b = true ↔ 128 ≤ b.toNat ∧ b.toNat ≤ 191 := by simp [isCont]

/-- The kinds of a beginning. -/
inductive Kind : Bs → Nat → Nat → Prop
  | one (b0 : UInt8) (t : Bs) (h : b0.toNat < 128) : Kind (b0 :: t) b0.toNat 1
  | two (b0 b1 : UInt8) (t : Bs) (h : 194 ≤ b0.toNat ∧ b0.toNat < 224) (h1 : isCont b1 = true) : Kind (b0 :: b1 :: t) (v2 b0.toNat b1) 2
  | three (b0 b1 b2 : UInt8) (t : Bs) (h : 224 ≤ b0.toNat ∧ b0.toNat < 240) (h1 : isCont b1 = true) (h2 : isCont b2 = true)
      (hv : ¬ (v3 b0.toNat b1 b2 < 2048 ∨ (55296 ≤ v3 b0.toNat b1 b2 ∧ v3 b0.toNat b1 b2 < 57344))) : Kind (b0 :: b1 :: b2 :: t) (v3 b0.toNat b1 b2) 3
  | four (b0 b1 b2 b3 : UInt8) (t : Bs) (h : 240 ≤ b0.toNat ∧ b0.toNat < 245) (h1 : isCont b1 = true) (h2 : isCont b2 = true) (h3 : isCont b3 = true)
      (hv : ¬ (v4 b0.toNat b1 b2 b3 < 65536 ∨ 1114111 < v4 b0.toNat b1 b2 b3)) : Kind (b0 :: b1 :: b2 :: b3 :: t) (v4 b0.toNat b1 b2 b3) 4

theorem dec_of_kind {l : Bs} {v n : Nat} (h : Kind l v n) : dec l = (v, n) := by
  cases h with
  | one b0 t h => simp [dec, h]
  | two b0 b1 t h h1 => simp only [dec]; rw [if_neg (by omega), if_pos h, if_pos h1]
  | three b0 b1 b2 t h h1 h2 hv => simp only [dec]; rw [if_neg (by omega), if_neg (by omega), if_pos h, if_pos (by simp [h1, h2]), if_neg hv]
  | four b0 b1 b2 b3 t h h1 h2 h3 hv => simp only [dec]; rw [if_neg (by omega), if_neg (by omega), if_neg (by omega), if_pos h, if_pos (by simp [h1, h2, h3]), if_neg hv]
theorem kind_of_dec {l : Bs} (h : (dec l).2 ≠ 0) : Kind l (dec l).1 (dec l).2 := by
  match l with
  | [] => simp [dec] at h
  | b0 :: t =>
    simp only [dec] at h ⊢
    by_cases c1 : b0.toNat < 128
    · rw [if_pos c1]; exact Kind.one b0 t c1
    · rw [if_neg c1] at h ⊢
      by_cases c2 : 194 ≤ b0.toNat ∧ b0.toNat < 224
      · rw [if_pos c2] at h ⊢
        match t with
        | [] => simp at h
        | b1 :: t =>
          by_cases k1 : isCont b1 = true
          · simp only [k1, if_true] at h ⊢; exact Kind.two b0 b1 t c2 k1
          · simp [k1] at h
      · rw [if_neg c2] at h ⊢
        by_cases c3 : 224 ≤ b0.toNat ∧ b0.toNat < 240
        · rw [if_pos c3] at h ⊢
          match t with
          | [] => simp at h
          | [b1] => simp at h
          | b1 :: b2 :: t =>
            by_cases k1 : isCont b1 = true
            · by_cases k2 : isCont b2 = true
              · by_cases hv : v3 b0.toNat b1 b2 < 2048 ∨ (55296 ≤ v3 b0.toNat b1 b2 ∧ v3 b0.toNat b1 b2 < 57344)
                · simp [k1, k2, hv] at h
                · simp only [k1, k2, Bool.and_self, if_true, if_neg hv] at h ⊢
                  exact Kind.three b0 b1 b2 t c3 k1 k2 hv
              · simp [k1, k2] at h
            · simp [k1] at h
        · rw [if_neg c3] at h ⊢
          by_cases c4 : 240 ≤ b0.toNat ∧ b0.toNat < 245
          · rw [if_pos c4] at h ⊢
            match t with
            | [] => simp at h
            | [b1] => simp at h
            | [b1, b2] => simp at h
            | b1 :: b2 :: b3 :: t =>
              by_cases k1 : isCont b1 = true
              · by_cases k2 : isCont b2 = true
                · by_cases k3 : isCont b3 = true
                  · by_cases hv : v4 b0.toNat b1 b2 b3 < 65536 ∨ 1114111 < v4 b0.toNat b1 b2 b3
                    · simp [k1, k2, k3, hv] at h
                    · simp only [k1, k2, k3, Bool.and_self, if_true, if_neg hv] at h ⊢
                      exact Kind.four b0 b1 b2 b3 t c4 k1 k2 k3 hv
                  · simp [k1, k2, k3] at h
                · simp [k1, k2] at h
              · simp [k1] at h
          · rw [if_neg c4] at h
            simp at h

theorem kind_append {l : Bs} {v n : Nat} (h : Kind l v n) (r : Bs) : Kind (l ++ r) v n := by
  cases h with
  | one b0 t h => exact Kind.one b0 _ h
  | two b0 b1 t h h1 => exact Kind.two b0 b1 _ h h1
  | three b0 b1 b2 t h h1 h2 hv => exact Kind.three b0 b1 b2 _ h h1 h2 hv
  | four b0 b1 b2 b3 t h h1 h2 h3 hv => exact Kind.four b0 b1 b2 b3 _ h h1 h2 h3 hv
theorem kind_take {l : Bs} {v n : Nat} (h : Kind l v n) : Kind (l.take n) v n := by
  cases h with
  | one b0 t h => exact Kind.one b0 _ h
  | two b0 b1 t h h1 => exact Kind.two b0 b1 _ h h1
  | three b0 b1 b2 t h h1 h2 hv => exact Kind.three b0 b1 b2 _ h h1 h2 hv
  | four b0 b1 b2 b3 t h h1 h2 h3 hv => exact Kind.four b0 b1 b2 b3 _ h h1 h2 h3 hv
theorem kind_len {l : Bs} {v n : Nat} (h : Kind l v n) : 1 ≤ n ∧ n ≤ 4 ∧ n ≤ l.length := by
  cases h <;> simp

/-- What a beginning tells, a longer text tells too. -/
theorem dec_append {l : Bs} (h : (dec l).2 ≠ 0) (r : Bs) : dec (l ++ r) = dec l := dec_of_kind (kind_append (kind_of_dec h) r)
theorem dec_take {l : Bs} (h : (dec l).2 ≠ 0) : dec (l.take (dec l).2) = dec l := dec_of_kind (kind_take (kind_of_dec h))
theorem dec_len {l : Bs} (h : (dec l).2 ≠ 0) : 1 ≤ (dec l).2 ∧ (dec l).2 ≤ 4 ∧ (dec l).2 ≤ l.length := kind_len (kind_of_dec h)
theorem dec_nil : dec [] = (0, 0) := rfl
theorem dec_ascii (b : UInt8) (t : Bs) (h : b.toNat < 128) : dec (b :: t) = (b.toNat, 1) := dec_of_kind (Kind.one b t h)

/-- How many bytes the first piece of a text has. -/
def tokLen (l : Bs) : Nat := if (dec l).2 = 0 then 1 else (dec l).2
theorem tokLen_pos (l : Bs) : 1 ≤ tokLen l := by unfold tokLen; split <;> omega
theorem tokLen_le {l : Bs} (h : l ≠ []) : tokLen l ≤ l.length := by
  unfold tokLen
  split
  · cases l <;> simp_all
  · rename_i e; exact (dec_len e).2.2
theorem tokLen_le4 (l : Bs) : tokLen l ≤ 4 := by
  unfold tokLen; split
  · omega
  · rename_i e; exact (dec_len e).2.1

/-- A text's pieces. -/
def toksF : Nat → Bs → List Bs
  | 0, _ => []
  | f + 1, l => if l = [] then [] else l.take (tokLen l) :: toksF f (l.drop (tokLen l))
def toks (l : Bs) : List Bs := toksF l.length l

theorem toksF_more : ∀ (f : Nat) (l : Bs), l.length ≤ f → toksF f l = toks l := by
  intro f
  induction f using Nat.strongRecOn with
  | ind f ih =>
    intro l hl
    match f, l with
    | 0, l => have : l = [] := by cases l <;> simp_all
              subst this; rfl
    | f + 1, [] => simp [toksF, toks]
    | f + 1, b :: t =>
      have h1 := tokLen_pos (b :: t)
      have hd : ((b :: t).drop (tokLen (b :: t))).length ≤ t.length := by simp; omega
      simp only [List.length_cons] at hl
      show (if (b :: t) = [] then [] else _ :: toksF f _) = _
      rw [if_neg (by simp), ih f (by omega) _ (by omega)]
      show _ = (if (b :: t) = [] then [] else _ :: toksF t.length _)
      rw [if_neg (by simp)]
      by_cases e : t.length < f + 1
      · rw [ih t.length e _ hd]
      · omega
theorem toks_nil : toks [] = [] := rfl
theorem toks_cons {l : Bs} (h : l ≠ []) : toks l = l.take (tokLen l) :: toks (l.drop (tokLen l)) := by
  have h1 := tokLen_pos l
  match l, h with
  | b :: t, _ =>
    show (if (b :: t) = [] then [] else _ :: toksF t.length _) = _
    rw [if_neg (by simp), toksF_more _ _ (by simp; omega)]
theorem toks_flatten (l : Bs) : (toks l).flatten = l := by
  have key : ∀ n (l : Bs), l.length ≤ n → (toks l).flatten = l := by
    intro n
    induction n with
    | zero => intro l h; have : l = [] := by cases l <;> simp_all
              subst this; rfl
    | succ n ih =>
      intro l h
      by_cases e : l = []
      · subst e; rfl
      · have := tokLen_pos l
        rw [toks_cons e, List.flatten_cons, ih _ (by simp; omega), List.take_append_drop]
  exact key l.length l (Nat.le_refl _)

/-- Is a piece a rune? -/
def good (t : Bs) : Bool := decide ((dec t).2 ≠ 0)

theorem tok_len_of {l : Bs} (h : l ≠ []) : (l.take (tokLen l)).length = tokLen l := by
  have := tokLen_le h
  simp; omega
/-- A piece that is a rune is all of one; one that is none is one byte. -/
theorem tok_form {l : Bs} (h : l ≠ []) : (dec l).2 ≠ 0 ∧ dec (l.take (tokLen l)) = dec l ∧ tokLen l = (dec l).2 ∨ (dec l).2 = 0 ∧ (dec (l.take (tokLen l))).2 = 0 ∧ tokLen l = 1 := by
  by_cases e : (dec l).2 = 0
  · have h1 : tokLen l = 1 := by unfold tokLen; rw [if_pos e]
    refine .inr ⟨e, ?_, h1⟩
    rw [h1]
    cases hd : decide ((dec (l.take 1)).2 = 0) with
    | true => simpa using hd
    | false =>
      have hd' : (dec (l.take 1)).2 ≠ 0 := by simpa using hd
      have := dec_append hd' (l.drop 1)
      rw [List.take_append_drop] at this
      rw [this] at e
      exact absurd e hd'
  · have h1 : tokLen l = (dec l).2 := by unfold tokLen; rw [if_neg e]
    exact .inl ⟨e, by rw [h1]; exact dec_take e, h1⟩

/-- The pieces of a text's beginning that ends where a piece ends. -/
theorem toks_parts (ts : List Bs) : ∀ (us : List Bs) (l : Bs), toks l = ts ++ us → toks ts.flatten = ts ∧ toks us.flatten = us := by
  induction ts with
  | nil =>
    intro us l h
    rw [List.nil_append] at h
    refine ⟨rfl, ?_⟩
    rw [← h, toks_flatten]
  | cons t ts ih =>
    intro us l h
    have hne : l ≠ [] := by intro e; subst e; simp [toks_nil] at h
    rw [toks_cons hne] at h
    simp only [List.cons_append, List.cons.injEq] at h
    obtain ⟨h1, h2⟩ := h
    obtain ⟨i1, i2⟩ := ih us _ h2
    refine ⟨?_, i2⟩
    have hl : l = t ++ ts.flatten ++ us.flatten := by
      have := toks_flatten (l.drop (tokLen l))
      rw [h2, List.flatten_append] at this
      rw [List.append_assoc, this, ← h1, List.take_append_drop]
    have ht : t.length = tokLen l := by rw [← h1]; exact tok_len_of hne
    have hp : t ++ ts.flatten ≠ [] := by
      have := tokLen_pos l
      intro e
      have := congrArg List.length e
      rw [List.length_append, List.length_nil] at this
      omega
    have hk : tokLen (t ++ ts.flatten) = t.length := by
      rcases tok_form hne with ⟨e, e1, e2⟩ | ⟨e, e1, e2⟩
      · rw [h1] at e1
        have : dec (t ++ ts.flatten) = dec l := by rw [dec_append (by rw [e1]; exact e), e1]
        unfold tokLen
        rw [this, if_neg e, ht, e2]
      · have : (dec (t ++ ts.flatten)).2 = 0 := by
          cases hd : decide ((dec (t ++ ts.flatten)).2 = 0) with
          | true => simpa using hd
          | false =>
            have hd' : (dec (t ++ ts.flatten)).2 ≠ 0 := by simpa using hd
            have := dec_append hd' us.flatten
            rw [← hl] at this
            rw [this] at e
            exact absurd e hd'
        unfold tokLen
        rw [if_pos this, ht, e2]
    rw [List.flatten_cons, toks_cons hp, hk]
    simp [i1]
end Go.Proofs.YtanimkkljbadpaaDoor.Q
