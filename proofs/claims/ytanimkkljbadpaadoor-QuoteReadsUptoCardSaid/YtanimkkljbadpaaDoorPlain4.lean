/- Runes counted, texts cut: the plain part. No program in sight. -/
import Derived.Test.YtanimkkljbadpaaDoorPlain3
set_option linter.unusedVariables false
set_option linter.unusedSimpArgs false
namespace Go.Proofs.YtanimkkljbadpaaDoor.Q

def goods (ts : List Bs) : Nat := (ts.filter good).length
def bads (ts : List Bs) : Nat := (ts.filter fun t => !good t).length
theorem goods_append (a b : List Bs) : goods (a ++ b) = goods a + goods b := by simp [goods]
theorem bads_append (a b : List Bs) : bads (a ++ b) = bads a + bads b := by simp [bads]
theorem all_count (ts : List Bs) : goods ts + bads ts = ts.length := by
  induction ts with
  | nil => rfl
  | cons t ts ih =>
    have h1 : goods (t :: ts) = goods [t] + goods ts := goods_append [t] ts
    have h2 : bads (t :: ts) = bads [t] + bads ts := bads_append [t] ts
    have h3 : goods [t] + bads [t] = 1 := by unfold goods bads; cases h : good t <;> simp [h]
    simp only [List.length_cons]; omega

theorem toks_kind {u : Bs} {v : Nat} (h : Kind u v u.length) (r : Bs) : toks (u ++ r) = u :: toks r := by
  have hl := kind_len h
  have hne : u ++ r ≠ [] := by cases u <;> simp_all
  have hd : dec (u ++ r) = (v, u.length) := dec_of_kind (kind_append h r)
  have ht : tokLen (u ++ r) = u.length := by unfold tokLen; rw [hd]; rw [if_neg (by show u.length ≠ 0; omega)]
  rw [toks_cons hne, ht, List.take_left, List.drop_left]
theorem toks_ascii : ∀ (a : Bs) (_ : ∀ b ∈ a, b.toNat < 128) (r : Bs), toks (a ++ r) = a.map (fun b => [b]) ++ toks r := by
  intro a
  induction a with
  | nil => intro _ r; rfl
  | cons b a ih =>
    intro h r
    have := toks_kind (u := [b]) (Kind.one b [] (h b (List.mem_cons_self ..))) (a ++ r)
    rw [List.cons_append, show b :: (a ++ r) = [b] ++ (a ++ r) from rfl, this, ih (fun x hx => h x (List.mem_cons_of_mem _ hx))]
    rfl
theorem good_kind {u : Bs} {v : Nat} (h : Kind u v u.length) : good u = true := by
  have hl := kind_len h
  unfold good; rw [dec_of_kind h]; exact decide_eq_true (by show u.length ≠ 0; omega)
theorem good_one (b : UInt8) (h : b.toNat < 128) : good [b] = true := good_kind (u := [b]) (Kind.one b [] h)
theorem good_map (a : Bs) (h : ∀ b ∈ a, b.toNat < 128) : ∀ t ∈ a.map (fun b => [b]), good t = true := by
  intro t ht
  obtain ⟨b, hb, rfl⟩ := List.mem_map.1 ht
  exact good_one b (h b hb)

/-- Letters that may stand in a line. -/
def Fine (b : UInt8) : Prop := b.toNat ≠ 10
theorem dig_range (d : Nat) (h : d < 16) : (dig d).toNat < 128 ∧ (dig d).toNat ≠ 10 := by
  have : d = 0 ∨ d = 1 ∨ d = 2 ∨ d = 3 ∨ d = 4 ∨ d = 5 ∨ d = 6 ∨ d = 7 ∨ d = 8 ∨ d = 9 ∨ d = 10 ∨ d = 11 ∨ d = 12 ∨ d = 13 ∨ d = 14 ∨ d = 15 := by omega
  rcases this with rfl | rfl | rfl | rfl | rfl | rfl | rfl | rfl | rfl | rfl | rfl | rfl | rfl | rfl | rfl | rfl <;> decide
theorem hex2_fine (v : Nat) : ∀ b ∈ [92, 120] ++ hex2 v, b.toNat < 128 ∧ b.toNat ≠ 10 := by
  intro b hb
  have h1 := dig_range (v / 16 % 16) (Nat.mod_lt _ (by omega))
  have h2 := dig_range (v % 16) (Nat.mod_lt _ (by omega))
  simp [hex2] at hb
  rcases hb with rfl | rfl | rfl | rfl
  · decide
  · decide
  · exact h1
  · exact h2
theorem hex4_fine (v : Nat) : ∀ b ∈ [92, 117] ++ hex4 v, b.toNat < 128 ∧ b.toNat ≠ 10 := by
  intro b hb
  have h1 := dig_range (v / 16 % 16) (Nat.mod_lt _ (by omega))
  have h2 := dig_range (v % 16) (Nat.mod_lt _ (by omega))
  have h3 := dig_range (v / 256 % 16) (Nat.mod_lt _ (by omega))
  have h4 := dig_range (v / 4096 % 16) (Nat.mod_lt _ (by omega))
  simp [hex4] at hb
  rcases hb with rfl | rfl | rfl | rfl | rfl | rfl
  · decide
  · decide
  · exact h4
  · exact h3
  · exact h1
  · exact h2
theorem kind_fine {u : Bs} {v n : Nat} (h : Kind u v n) (hv : v ≠ 10) : ∀ b ∈ u.take n, b.toNat ≠ 10 := by
  cases h with
  | one b0 t h => intro b hb; simp at hb; subst hb; exact hv
  | two b0 b1 t h h1 =>
    rw [isCont_iff] at h1
    intro b hb; simp at hb; rcases hb with rfl | rfl <;> omega
  | three b0 b1 b2 t h h1 h2 hv =>
    rw [isCont_iff] at h1 h2
    intro b hb; simp at hb; rcases hb with rfl | rfl | rfl <;> omega
  | four b0 b1 b2 b3 t h h1 h2 h3 hv =>
    rw [isCont_iff] at h1 h2 h3
    intro b hb; simp at hb; rcases hb with rfl | rfl | rfl | rfl <;> omega

/-- What a piece is told as: letters for themselves, or the rune itself. -/
theorem tell_form {u : Bs} (h : Tok u) : ((∀ b ∈ tell u, b.toNat < 128) ∨ ∃ v, tell u = u ∧ Kind u v u.length) ∧ (∀ b ∈ tell u, b.toNat ≠ 10) ∧ tell u ≠ [] := by
  have hx := (one_tell (w := fun l => (dec l).2) (e := enc) ⟨fun _ _ => rfl, fun _ _ _ => rfl⟩ h []).2.2.2
  have hne : tell u ≠ [] := by intro e; rw [e] at hx; exact hx rfl
  rcases h with ⟨v, h⟩ | ⟨b, rfl, hb⟩
  · rw [tell_good h] at hne ⊢
    unfold told at hne ⊢
    by_cases c1 : v = 34
    · rw [if_pos c1]; exact ⟨.inl (by decide), by decide, by simp⟩
    rw [if_neg c1] at hne ⊢
    by_cases c2 : v = 92
    · rw [if_pos c2]; exact ⟨.inl (by decide), by decide, by simp⟩
    rw [if_neg c2] at hne ⊢
    by_cases c3 : v = 10
    · rw [if_pos c3]; exact ⟨.inl (by decide), by decide, by simp⟩
    rw [if_neg c3] at hne ⊢
    by_cases c4 : v = 9
    · rw [if_pos c4]; exact ⟨.inl (by decide), by decide, by simp⟩
    rw [if_neg c4] at hne ⊢
    by_cases c5 : v = 0
    · rw [if_pos c5]; exact ⟨.inl (by decide), by decide, by simp⟩
    rw [if_neg c5] at hne ⊢
    by_cases c6 : ctrl v = true
    · rw [if_pos c6]; exact ⟨.inl fun b hb => (hex2_fine v b hb).1, fun b hb => (hex2_fine v b hb).2, by simp⟩
    rw [if_neg c6] at hne ⊢
    by_cases c7 : odd v = true
    · rw [if_pos c7]; exact ⟨.inl fun b hb => (hex4_fine v b hb).1, fun b hb => (hex4_fine v b hb).2, by simp⟩
    rw [if_neg c7] at hne ⊢
    refine ⟨.inr ⟨v, rfl, h⟩, ?_, hne⟩
    have := kind_fine h c3
    rwa [List.take_length] at this
  · have ht : tell [b] = [92, 120] ++ hex2 b.toNat := by unfold tell; rw [if_pos hb]; rfl
    rw [ht]
    exact ⟨.inl fun x hx => (hex2_fine _ x hx).1, fun x hx => (hex2_fine _ x hx).2, by simp⟩
theorem toks_tell {u : Bs} (h : Tok u) (r : Bs) : ∃ ts, toks (tell u ++ r) = ts ++ toks r ∧ (∀ t ∈ ts, good t = true) ∧ 1 ≤ ts.length := by
  obtain ⟨h1, h2, h3⟩ := tell_form h
  rcases h1 with h1 | ⟨v, h1, hk⟩
  · refine ⟨_, toks_ascii _ h1 r, good_map _ h1, ?_⟩
    cases e : tell u with
    | nil => exact absurd e h3
    | cons a b => simp
  · rw [h1]
    refine ⟨[u], by rw [toks_kind hk]; rfl, ?_, by simp⟩
    intro t ht
    simp at ht; subst ht; exact good_kind hk
theorem toks_body (us : List Bs) (h : ∀ u ∈ us, Tok u) (r : Bs) : ∃ ts, toks (us.flatMap tell ++ r) = ts ++ toks r ∧ (∀ t ∈ ts, good t = true) ∧ us.length ≤ ts.length := by
  induction us with
  | nil => exact ⟨[], rfl, by simp, by simp⟩
  | cons u us ih =>
    obtain ⟨ts, h1, h2, h3⟩ := ih (fun x hx => h x (List.mem_cons_of_mem _ hx))
    obtain ⟨ts', g1, g2, g3⟩ := toks_tell (h u (List.mem_cons_self ..)) (us.flatMap tell ++ r)
    refine ⟨ts' ++ ts, ?_, ?_, by simp; omega⟩
    · rw [List.flatMap_cons, List.append_assoc, g1, h1, List.append_assoc]
    · intro t ht
      rcases List.mem_append.1 ht with ht | ht
      · exact g2 t ht
      · exact h2 t ht
/-- What is told is all runes: as many as the text has pieces, and two, or more. -/
theorem toks_quote (s : Bs) : bads (toks (quote s)) = 0 ∧ (toks s).length + 2 ≤ goods (toks (quote s)) := by
  obtain ⟨ts, h1, h2, h3⟩ := toks_body (toks s) (toks_tok s) [34]
  have hq : toks (quote s) = [[34]] ++ ts ++ [[34]] := by
    have a1 := toks_ascii [34] (by decide) (body s ++ [34])
    have a2 := toks_ascii [34] (by decide) []
    rw [List.append_nil] at a2
    unfold quote
    rw [show 34 :: (body s ++ [34]) = [34] ++ (body s ++ [34]) from rfl, a1, body_flat, h1, a2]
    rfl
  have hall : ∀ t ∈ toks (quote s), good t = true := by
    rw [hq]
    intro t ht
    simp at ht
    rcases ht with rfl | ht | rfl
    · decide
    · exact h2 t ht
    · decide
  have hb : bads (toks (quote s)) = 0 := by
    unfold bads
    rw [List.length_eq_zero_iff, List.filter_eq_nil_iff]
    intro t ht
    simp [hall t ht]
  have := all_count (toks (quote s))
  have hl : (toks (quote s)).length = ts.length + 2 := by rw [hq]; simp
  exact ⟨hb, by omega⟩
theorem quote_fine (s : Bs) : ∀ b ∈ quote s, b.toNat ≠ 10 := by
  intro b hb
  simp only [quote, List.mem_cons, List.mem_append, List.mem_nil_iff, or_false] at hb
  rcases hb with rfl | hb | rfl
  · decide
  · obtain ⟨u, hu, hb⟩ := List.mem_flatMap.1 hb
    exact (tell_form (toks_tok s u hu)).2.1 b hb
  · decide

/-- How far the whole pieces go that end at a number or ahead of it. -/
def cutT : List Bs → Nat → Int → Nat
  | [], p, _ => p
  | t :: ts, p, n => if n < (p : Int) + t.length then p else cutT ts (p + t.length) n
def cutLen (l : Bs) (n : Int) : Nat := cutT (toks l) 0 n
def cut (l : Bs) (n : Int) : Bs := l.take (cutLen l n)

theorem cutT_split (n : Int) : ∀ (ts : List Bs) (p : Nat), ∃ as bs, ts = as ++ bs ∧ cutT ts p n = p + as.flatten.length ∧ (as = [] ∨ ((p + as.flatten.length : Nat) : Int) ≤ n) ∧ (bs = [] ∨ ∃ u us, bs = u :: us ∧ n < ((p + as.flatten.length : Nat) : Int) + u.length) := by
  intro ts
  induction ts with
  | nil => intro p; exact ⟨[], [], rfl, by simp [cutT], .inl rfl, .inl rfl⟩
  | cons t ts ih =>
    intro p
    by_cases h : n < (p : Int) + t.length
    · exact ⟨[], t :: ts, rfl, by simp [cutT, h], .inl rfl, .inr ⟨t, ts, rfl, by simpa using h⟩⟩
    · obtain ⟨as, bs, h1, h2, h3, h4⟩ := ih (p + t.length)
      refine ⟨t :: as, bs, by rw [h1]; rfl, ?_, .inr ?_, ?_⟩
      · simp only [cutT, if_neg h, h2, List.flatten_cons, List.length_append]; omega
      · simp only [List.flatten_cons, List.length_append]
        rcases h3 with rfl | h3
        · simp; omega
        · omega
      · rcases h4 with h4 | ⟨u, us, h4, h5⟩
        · exact .inl h4
        · exact .inr ⟨u, us, h4, by simp only [List.flatten_cons, List.length_append]; omega⟩
theorem cutT_whole (n : Int) : ∀ (ts : List Bs) (p : Nat), (ts = [] ∨ ((p + ts.flatten.length : Nat) : Int) ≤ n) → cutT ts p n = p + ts.flatten.length := by
  intro ts
  induction ts with
  | nil => intro p _; simp [cutT]
  | cons t ts ih =>
    intro p h
    rcases h with h | h
    · simp at h
    · simp only [List.flatten_cons, List.length_append] at h
      have h1 : ¬ n < (p : Int) + t.length := by omega
      simp only [cutT, if_neg h1, List.flatten_cons, List.length_append]
      rw [ih (p + t.length) (.inr (by omega))]
      omega

theorem tok_small {u : Bs} (h : Tok u) : u.length ≤ 4 := by
  rcases h with ⟨v, h⟩ | ⟨b, rfl, _⟩
  · exact (kind_len h).2.1
  · simp

/-- All that is claimed of a cut. -/
theorem cut_facts (l : Bs) (n : Int) : cut l n = l.take (cut l n).length ∧ (cut l n).length ≤ l.length ∧ (n < 0 → cut l n = []) ∧ (0 ≤ n → ((cut l n).length : Int) ≤ n) ∧ ((l.length : Int) ≤ n → cut l n = l) ∧ (n < l.length → n - 3 ≤ (cut l n).length) ∧ cut (cut l n) n = cut l n ∧
    goods (toks (cut l n)) + goods (toks (l.drop (cut l n).length)) = goods (toks l) ∧ bads (toks (cut l n)) + bads (toks (l.drop (cut l n).length)) = bads (toks l) := by
  obtain ⟨as, bs, h1, h2, h3, h4⟩ := cutT_split n (toks l) 0
  obtain ⟨p1, p2⟩ := toks_parts as bs l h1
  have hl : l = as.flatten ++ bs.flatten := by
    have := toks_flatten l
    rw [h1, List.flatten_append] at this
    exact this.symm
  simp only [Nat.zero_add] at h2 h3 h4
  have hc : cut l n = as.flatten := by
    unfold cut cutLen
    rw [h2]
    conv => lhs; rw [hl]
    rw [List.take_left]
  have hd : l.drop as.flatten.length = bs.flatten := by
    conv => lhs; rw [hl]
    rw [List.drop_left]
  have hll : l.length = as.flatten.length + bs.flatten.length := by
    conv => lhs; rw [hl]
    rw [List.length_append]
  rw [hc, hd]
  refine ⟨?_, by omega, ?_, ?_, ?_, ?_, ?_, ?_, ?_⟩
  · conv => rhs; rw [hl]
    rw [List.take_left]
  · intro hn
    rcases h3 with h3 | h3
    · rw [h3]; rfl
    · omega
  · intro hn
    rcases h3 with h3 | h3
    · rw [h3]; simpa using hn
    · exact h3
  · intro hn
    rcases h4 with h4 | ⟨u, us, h4, h5⟩
    · rw [h4] at hl; simpa using hl.symm
    · rw [h4] at hll
      simp only [List.flatten_cons, List.length_append] at hll
      omega
  · intro hn
    rcases h4 with h4 | ⟨u, us, h4, h5⟩
    · rw [h4] at hll; simp only [List.flatten_nil, List.length_nil] at hll; omega
    · have := tok_small (toks_tok l u (by rw [h1, h4]; simp))
      clear h2 h1 p1 p2 hl hc hd hll h3
      generalize as.flatten.length = L at *
      omega
  · unfold cut cutLen
    rw [p1, cutT_whole n as 0 (by rw [Nat.zero_add]; exact h3), Nat.zero_add, List.take_length]
  · rw [p1, p2, h1, goods_append]
  · rw [p1, p2, h1, bads_append]
end Go.Proofs.YtanimkkljbadpaaDoor.Q
