/- Texts that are told, read back: the plain part. No program in sight. -/
import Derived.Test.YtanimkkljbadpaaDoorPlain2
set_option linter.unusedVariables false
set_option linter.unusedSimpArgs false
namespace Go.Proofs.YtanimkkljbadpaaDoor.Q

/-- A piece, by itself. -/
def Tok (u : Bs) : Prop := (∃ v, Kind u v u.length) ∨ ∃ b, u = [b] ∧ (dec [b]).2 = 0
theorem tok_take {l : Bs} (h : l ≠ []) : Tok (l.take (tokLen l)) := by
  rcases tok_form h with ⟨e, e1, e2⟩ | ⟨e, e1, e2⟩
  · refine .inl ⟨(dec l).1, ?_⟩
    rw [tok_len_of h, e2]
    exact kind_take (kind_of_dec e)
  · match l, h with
    | b :: t, _ =>
      rw [e2] at e1 ⊢
      exact .inr ⟨b, rfl, e1⟩
theorem toks_tok (l : Bs) : ∀ u ∈ toks l, Tok u := by
  have key : ∀ n (l : Bs), l.length ≤ n → ∀ u ∈ toks l, Tok u := by
    intro n
    induction n with
    | zero => intro l h; have : l = [] := by cases l <;> simp_all
              subst this; intro u hu; simp [toks_nil] at hu
    | succ n ih =>
      intro l h u hu
      by_cases e : l = []
      · subst e; simp [toks_nil] at hu
      · have := tokLen_pos l
        rw [toks_cons e] at hu
        rcases List.mem_cons.1 hu with rfl | hu
        · exact tok_take e
        · exact ih _ (by simp; omega) u hu
  exact key l.length l (Nat.le_refl _)

/-- One piece of a text's inside, read: w: how many bytes of a rune (or of none) are taken as they are; e: a number's rune. -/
def oneG (w : Bs → Nat) (e : Nat → Bs) (l : Bs) : Bs × Nat :=
  match l with
  | [] => ([], 0)
  | c :: r =>
    if c.toNat ≠ 92 then (l.take (w l), w l)
    else match r with
      | [] => ([], 0)
      | c :: r =>
        if c.toNat = 34 ∨ c.toNat = 92 then ([c], 2)
        else if c.toNat = 110 then ([10], 2)
        else if c.toNat = 116 then ([9], 2)
        else if c.toNat = 48 then ([0], 2)
        else if c.toNat = 120 then (match undigs 2 r 0 with | some v => ([UInt8.ofNat v], 4) | none => ([], 0))
        else if c.toNat = 117 then (match undigs 4 r 0 with | some v => (e v, 6) | none => ([], 0))
        else ([], 0)

def rdF (w : Bs → Nat) (e : Nat → Bs) : Nat → Bs → Bs → Nat → Option (Bs × Nat)
  | 0, _, _, _ => none
  | f + 1, T, acc, i =>
    if i < T.length then
      if (T.getD i 0).toNat = 34 then (if quote acc = T.take (i + 1) then some (acc, i + 1) else none)
      else if (oneG w e (T.drop i)).2 = 0 then none else rdF w e f T (acc ++ (oneG w e (T.drop i)).1) (i + (oneG w e (T.drop i)).2)
    else none
def readG (w : Bs → Nat) (e : Nat → Bs) (T : Bs) : Option (Bs × Nat) := if T ≠ [] ∧ (T.headD 0).toNat = 34 then rdF w e T.length T [] 1 else none

/-- What is asked of the two. -/
structure Fair (w : Bs → Nat) (e : Nat → Bs) : Prop where
  w : ∀ l, (dec l).2 ≠ 0 → w l = (dec l).2
  e : ∀ v, v < 65536 → ¬ (55296 ≤ v ∧ v < 57344) → e v = enc v

theorem tell_good {u : Bs} {v : Nat} (h : Kind u v u.length) : tell u = told v u := by
  unfold tell
  rw [dec_of_kind h, if_neg (by have := kind_len h; show u.length ≠ 0; omega)]
theorem enc_tok {u : Bs} {v : Nat} (h : Kind u v u.length) : enc v = u := by
  have := (enc_kind h).1
  rwa [List.take_length] at this

theorem toNat_ne {a : UInt8} {n : Nat} (h : a.toNat = n) : a = UInt8.ofNat n := by subst h; simp

theorem kind_head {l : Bs} {v n : Nat} (h : Kind l v n) (h1 : v ≠ 34) (h2 : v ≠ 92) : ∃ c t, l = c :: t ∧ c.toNat ≠ 34 ∧ c.toNat ≠ 92 := by
  cases h with
  | one b0 t h => exact ⟨b0, t, rfl, h1, h2⟩
  | two b0 b1 t h h1 => exact ⟨b0, _, rfl, by omega, by omega⟩
  | three b0 b1 b2 t h h1 h2 hv => exact ⟨b0, _, rfl, by omega, by omega⟩
  | four b0 b1 b2 b3 t h h1 h2 h3 hv => exact ⟨b0, _, rfl, by omega, by omega⟩

/-- What a piece is told as begins with no quotation mark, and is read as the piece. -/
theorem one_tell {w : Bs → Nat} {e : Nat → Bs} (hf : Fair w e) {u : Bs} (h : Tok u) (r : Bs) :
    (tell u ++ r) ≠ [] ∧ ((tell u ++ r).headD 0).toNat ≠ 34 ∧ oneG w e (tell u ++ r) = (u, (tell u).length) ∧ (tell u).length ≠ 0 := by
  rcases h with ⟨v, h⟩ | ⟨b, rfl, hb⟩
  · have he := enc_tok h
    have hlen := kind_len h
    rw [tell_good h]
    have a1 := (enc_kind h).2.1
    have a2 := (enc_kind h).2.2.1
    have a3 := (enc_kind h).2.2.2
    unfold told
    by_cases c1 : v = 34
    · subst c1
      have : u = [34] := he.symm.trans rfl
      subst this
      exact ⟨by simp, by simp, rfl, by simp⟩
    rw [if_neg c1]
    by_cases c2 : v = 92
    · subst c2
      have : u = [92] := he.symm.trans rfl
      subst this
      exact ⟨by simp, by simp, rfl, by simp⟩
    rw [if_neg c2]
    by_cases c3 : v = 10
    · subst c3
      have : u = [10] := he.symm.trans rfl
      subst this
      exact ⟨by simp, by simp, rfl, by simp⟩
    rw [if_neg c3]
    by_cases c4 : v = 9
    · subst c4
      have : u = [9] := he.symm.trans rfl
      subst this
      exact ⟨by simp, by simp, rfl, by simp⟩
    rw [if_neg c4]
    by_cases c5 : v = 0
    · subst c5
      have : u = [0] := he.symm.trans rfl
      subst this
      exact ⟨by simp, by simp, rfl, by simp⟩
    rw [if_neg c5]
    by_cases c6 : ctrl v = true
    · rw [if_pos c6]
      have hv : v < 128 := by simp [ctrl] at c6; omega
      refine ⟨by simp, by simp, ?_, by simp⟩
      have : oneG w e ([92, 120] ++ hex2 v ++ r) = (match undigs 2 (hex2 v ++ r) 0 with | some v => ([UInt8.ofNat v], 4) | none => ([], 0)) := rfl
      rw [this, undigs2 v (by omega)]
      have : [UInt8.ofNat v] = u := by rw [← he]; unfold enc; rw [if_pos hv]
      simp [this, hex2]
    rw [if_neg c6]
    by_cases c7 : odd v = true
    · rw [if_pos c7]
      have hv : v < 65536 := by simp [odd] at c7; omega
      refine ⟨by simp, by simp, ?_, by simp⟩
      have : oneG w e ([92, 117] ++ hex4 v ++ r) = (match undigs 4 (hex4 v ++ r) 0 with | some v => (e v, 6) | none => ([], 0)) := rfl
      rw [this, undigs4 v hv]
      simp [hex4, hf.e v hv a3, he]
    rw [if_neg c7]
    have hd : (dec (u ++ r)) = (v, u.length) := dec_of_kind (kind_append h r)
    have hw : w (u ++ r) = u.length := by rw [hf.w _ (by rw [hd]; show u.length ≠ 0; omega), hd]
    have hhead := kind_head h c1 c2
    obtain ⟨c, t, rfl, q1, q2⟩ := hhead
    refine ⟨by simp, by simpa using q1, ?_, by simp⟩
    have : oneG w e (c :: t ++ r) = ((c :: t ++ r).take (w (c :: t ++ r)), w (c :: t ++ r)) := by
      show (if c.toNat ≠ 92 then _ else _) = _
      rw [if_pos q2]
    rw [this, hw, List.take_left]
  · have ht : tell [b] = [92, 120] ++ hex2 b.toNat := by unfold tell; rw [if_pos hb]; rfl
    rw [ht]
    refine ⟨by simp, by simp, ?_, by simp⟩
    have : oneG w e ([92, 120] ++ hex2 b.toNat ++ r) = (match undigs 2 (hex2 b.toNat ++ r) 0 with | some v => ([UInt8.ofNat v], 4) | none => ([], 0)) := rfl
    rw [this, undigs2 _ b.toNat_lt]
    simp [hex2]

theorem body_flat (l : Bs) : body l = (toks l).flatMap tell := rfl
theorem flat_len (us : List Bs) (h : ∀ u ∈ us, Tok u) : us.length ≤ (us.flatMap tell).length := by
  induction us with
  | nil => simp
  | cons u us ih =>
    have h1 := (one_tell (w := fun l => (dec l).2) (e := enc) ⟨fun _ _ => rfl, fun _ _ _ => rfl⟩ (h u (List.mem_cons_self ..)) []).2.2.2
    have h2 := ih (fun x hx => h x (List.mem_cons_of_mem _ hx))
    simp only [List.length_cons, List.flatMap_cons, List.length_append]
    omega

theorem getD_at_drop (T : Bs) (i : Nat) : T.getD i 0 = (T.drop i).headD 0 := by
  simp [List.getD, List.headD_eq_head?_getD, List.head?_drop]

theorem rd_quote {w : Bs → Nat} {e : Nat → Bs} (hf : Fair w e) (s rest : Bs) : ∀ (us ts : List Bs) (f : Nat), toks s = ts ++ us → us.length < f →
    rdF w e f (quote s ++ rest) ts.flatten (1 + (ts.flatMap tell).length) = some (s, (quote s).length) := by
  intro us
  induction us with
  | nil =>
    intro ts f hs hl
    obtain ⟨f, rfl⟩ : ∃ g, f = g + 1 := ⟨f - 1, by omega⟩
    rw [List.append_nil] at hs
    have hfl : ts.flatten = s := by rw [← hs, toks_flatten]
    have hb : ts.flatMap tell = body s := by rw [← hs]; rfl
    rw [hfl, hb]
    have hq : (quote s).length = 1 + (body s).length + 1 := by simp [quote]; omega
    have hg : ((quote s ++ rest).getD (1 + (body s).length) 0) = 34 := by
      rw [getD_at_drop, show quote s ++ rest = (34 :: body s) ++ (34 :: rest) by simp [quote], show 1 + (body s).length = (34 :: body s).length by simp; omega, List.drop_left]
      rfl
    show (if _ then _ else _) = _
    rw [if_pos (by simp [hq]; omega), hg, if_pos (show (34 : UInt8).toNat = 34 from rfl), if_pos, hq]
    rw [← hq, List.take_left]
  | cons u us ih =>
    intro ts f hs hl
    obtain ⟨f, rfl⟩ : ∃ g, f = g + 1 := ⟨f - 1, by omega⟩
    have hu : Tok u := toks_tok s u (by rw [hs]; simp)
    have hb : body s = ts.flatMap tell ++ (tell u ++ us.flatMap tell) := by rw [body_flat, hs]; simp
    have hT : quote s ++ rest = (34 :: ts.flatMap tell) ++ (tell u ++ (us.flatMap tell ++ 34 :: rest)) := by simp [quote, hb]
    have hd : (quote s ++ rest).drop (1 + (ts.flatMap tell).length) = tell u ++ (us.flatMap tell ++ 34 :: rest) := by
      rw [hT, show 1 + (ts.flatMap tell).length = (34 :: ts.flatMap tell).length by simp; omega, List.drop_left]
    obtain ⟨o1, o2, o3, o4⟩ := one_tell hf hu (us.flatMap tell ++ 34 :: rest)
    have hlt : 1 + (ts.flatMap tell).length < (quote s ++ rest).length := by
      rw [hT]; simp; omega
    show (if _ then _ else _) = _
    rw [if_pos hlt, getD_at_drop, hd, if_neg o2, o3, if_neg o4]
    have := ih (ts ++ [u]) f (by rw [hs]; simp) (by simp at hl; omega)
    simp only [List.flatten_append, List.flatMap_append, List.flatten_cons, List.flatten_nil, List.append_nil, List.flatMap_cons, List.flatMap_nil, List.length_append] at this
    rw [← Nat.add_assoc] at this
    exact this

/-- What is told comes back, whatever stands behind. -/
theorem read_quote {w : Bs → Nat} {e : Nat → Bs} (hf : Fair w e) (s rest : Bs) : readG w e (quote s ++ rest) = some (s, (quote s).length) := by
  unfold readG
  rw [if_pos ⟨by simp [quote], by simp [quote]⟩]
  have h1 := flat_len (toks s) (toks_tok s)
  have h2 : (quote s).length = 1 + (body s).length + 1 := by simp [quote]; omega
  exact rd_quote hf s rest (toks s) [] _ rfl (by rw [List.length_append, h2, body_flat]; omega)

theorem rd_sound {w : Bs → Nat} {e : Nat → Bs} (T : Bs) : ∀ (f : Nat) (acc : Bs) (i : Nat) (a : Bs) (n : Nat), rdF w e f T acc i = some (a, n) → T.take n = quote a ∧ n ≤ T.length := by
  intro f
  induction f with
  | zero => intro acc i a n h; simp [rdF] at h
  | succ f ih =>
    intro acc i a n h
    simp only [rdF] at h
    split at h
    · rename_i hi
      split at h
      · split at h
        · rename_i hq
          simp only [Option.some.injEq, Prod.mk.injEq] at h
          obtain ⟨rfl, rfl⟩ := h
          exact ⟨hq.symm, hi⟩
        · simp at h
      · split at h
        · simp at h
        · exact ih _ _ _ _ h
    · simp at h
theorem read_sound {w : Bs → Nat} {e : Nat → Bs} {T a : Bs} {n : Nat} (h : readG w e T = some (a, n)) : T = quote a ++ T.drop n ∧ n = (quote a).length := by
  unfold readG at h
  split at h
  · obtain ⟨h1, h2⟩ := rd_sound T _ _ _ _ _ h
    refine ⟨by rw [← h1, List.take_append_drop], ?_⟩
    rw [← h1]; simp; omega
  · simp at h
/-- Two ways of reading that are fair read alike. -/
theorem read_alike {w w' : Bs → Nat} {e e' : Nat → Bs} (hf : Fair w e) (hf' : Fair w' e') (T : Bs) : readG w e T = readG w' e' T := by
  cases h : readG w e T with
  | some p =>
    obtain ⟨a, n⟩ := p
    obtain ⟨h1, h2⟩ := read_sound h
    rw [h1, read_quote hf', h2]
  | none =>
    cases h' : readG w' e' T with
    | none => rfl
    | some p =>
      obtain ⟨a, n⟩ := p
      obtain ⟨h1, h2⟩ := read_sound h'
      rw [h1, read_quote hf] at h
      exact h.symm ▸ (by simp at h)
end Go.Proofs.YtanimkkljbadpaaDoor.Q
