/- Walks: wrong, Runes, Cut. -/
import Derived.Test.YtanimkkljbadpaaDoorW1
import Derived.Deep.QuietTactic
import Derived.BigQuiet
import Derived.Deep.LoopGhost
set_option linter.unusedVariables false
set_option linter.unusedSimpArgs false
namespace Go.Proofs.YtanimkkljbadpaaDoor
open Go.Shelf Go.RowKit Q

abbrev LS (s : ByteArray) : Bs := s.data.toList
theorem LS_length (s : ByteArray) : (LS s).length = s.size := by rw [LS, Array.length_toList]; rfl
theorem LS_extract (s : ByteArray) (i : Nat) (h : i ≤ s.size) : LS (s.extract i s.size) = (LS s).drop i := by
  have h1 := LS_length s
  have h2 : LS (s.extract i s.size) = (LS s).extract i s.size := by simp [LS]
  rw [h2, List.extract_eq_take_drop, List.take_of_length_le]
  rw [List.length_drop, h1]; omega
theorem drop_ne (s : ByteArray) (i : Nat) (h : i < s.size) : (LS s).drop i ≠ [] := by
  intro e
  have := congrArg List.length e
  rw [List.length_drop, LS_length] at this
  simp at this; omega

/-- A place where a piece begins. -/
theorem at_pos {L : Bs} {ps qs : List Bs} (h : toks L = ps ++ qs) (hp : ps.flatten.length < L.length) :
    ∃ u qs', qs = u :: qs' ∧ u = (L.drop ps.flatten.length).take (tokLen (L.drop ps.flatten.length)) ∧ tokLen (L.drop ps.flatten.length) = u.length ∧ Tok u ∧ (good u = true ↔ (dec (L.drop ps.flatten.length)).2 ≠ 0) ∧
      toks L = (ps ++ [u]) ++ qs' ∧ ps.flatten.length + u.length = (ps ++ [u]).flatten.length ∧ ps.flatten.length + u.length ≤ L.length := by
  obtain ⟨p1, p2⟩ := toks_parts ps qs L h
  have hl : L = ps.flatten ++ qs.flatten := by
    have := toks_flatten L
    rw [h, List.flatten_append] at this
    exact this.symm
  have hd : L.drop ps.flatten.length = qs.flatten := by
    conv => lhs; rw [hl]
    rw [List.drop_left]
  have hne : qs.flatten ≠ [] := by
    intro e
    rw [e, List.append_nil] at hl
    rw [← hl] at hp
    omega
  rw [hd]
  have hc := toks_cons hne
  rw [p2] at hc
  have hq : toks L = (ps ++ [qs.flatten.take (tokLen qs.flatten)]) ++ toks (qs.flatten.drop (tokLen qs.flatten)) := by
    rw [h, List.append_assoc]
    exact congrArg (ps ++ ·) hc
  refine ⟨_, _, hc, rfl, (tok_len_of hne).symm, tok_take hne, ?_, hq, by simp, ?_⟩
  · rcases tok_form hne with ⟨e, e1, e2⟩ | ⟨e, e1, e2⟩
    · simp [good, e1, e]
    · simp [good, e1, e]
  · have := tokLen_le hne
    rw [tok_len_of hne]
    conv => rhs; rw [hl]
    rw [List.length_append]
    omega
theorem at_end {L : Bs} {ps qs : List Bs} (h : toks L = ps ++ qs) (hp : ¬ ps.flatten.length < L.length) : qs = [] ∧ ps = toks L := by
  have hl : L.length = ps.flatten.length + qs.flatten.length := by
    have := toks_flatten L
    rw [h, List.flatten_append] at this
    rw [← List.length_append, this]
  have hb : qs.flatten = [] := List.eq_nil_of_length_eq_zero (by omega)
  have p2 := (toks_parts ps qs L h).2
  rw [hb] at p2
  have : qs = [] := p2.symm.trans toks_nil
  subst this
  exact ⟨rfl, by simpa using h.symm⟩
/-- What the model's range tells at a place. -/
theorem decode_width (s : ByteArray) (i : Nat) (h : i < s.size) : (Utf8.decode s i).2 = tokLen ((LS s).drop i) := by
  rw [decode_dec s i h]; unfold tokLen; split <;> rfl

abbrev Tabs (w : World) : Prop := Lib.Utf8Tabs 0 1 w

set_option maxHeartbeats 400000 in
set_option maxRecDepth 100000 in
theorem wrong_ok (s : ByteArray) (i : Nat) (w : World) (hT : Tabs w) (hi : i < s.size) (hs : s.size ≤ 9223372036854775807) :
    Calls Tryd.prog 22 #[.string s, .int .i64 i, .int .i32 ((Utf8.decode s i).1 : Int)] w fun e w' => e = .returned (.bool (decide ((dec ((LS s).drop i)).2 = 0))) ∧ Below w.heap.size w w' := by
  have HT := Aside.mk hT
  have hex := LS_extract s i (by omega)
  have hsz : (s.extract i s.size).size ≠ 0 := by
    rw [← LS_length, hex, List.length_drop, LS_length]; omega
  have hdg : Lib.decodeGo (s.extract i s.size) = if (dec ((LS s).drop i)).2 = 0 then (65533, 1) else dec ((LS s).drop i) := by
    unfold Lib.decodeGo
    rw [if_neg hsz, decode_dec _ 0 (by omega), List.drop_zero]
    show (if (dec (LS (s.extract i s.size))).2 = 0 then _ else dec (LS _)) = _
    rw [hex]
  have HD := Aside.mk (Tryd.utf8_DecodeRuneInString (s.extract i s.size))
  rw [hdg] at HD
  rw [decode_dec s i hi]
  have hk := fun h => enc_kind (kind_of_dec (l := (LS s).drop i) h)
  clear hT hex hsz hdg
  generalize dec ((LS s).drop i) = d at *
  obtain ⟨v, n⟩ := d
  by_cases h0 : n = 0
  · subst h0
    simp only [if_true] at *
    simp only [decide_true]
    go_enter Tryd.func22, Tryd.ntmps22
    go_wp2_with (go_at_call 30; refine (HD.out _ HT.out).mono ?_; rintro e w1 ⟨rfl, hb⟩)
    go_ret
    exact ⟨rfl, hb⟩
  · simp only [if_neg h0] at *
    have hf : decide (n = 0) = false := decide_eq_false h0
    rw [hf]
    generalize hx : (v : Int) = x at HD ⊢
    by_cases h1 : v = 65533
    · have h2 : n ≠ 1 := by
        have := (hk h0).2.1
        omega
      have e1 : (x != 65533) = false := by rw [bne_eq_false_iff_eq]; omega
      generalize hy : (n : Int) = y at HD
      have e2 : (y == 1) = false := beq_eq_false_iff_ne.2 (by omega)
      clear hk h0 h1 h2 hf hx hy
      go_enter Tryd.func22, Tryd.ntmps22
      go_wp2_with (go_at_call 30; refine (HD.out _ HT.out).mono ?_; rintro e w1 ⟨rfl, hb⟩)
      go_ret
      exact ⟨rfl, hb⟩
    · have e1 : (x != 65533) = true := by rw [bne_iff_ne]; omega
      clear hk h0 h1 hf hx HD
      go_enter Tryd.func22, Tryd.ntmps22
      go_wp2_with fail
      go_ret
      exact ⟨rfl, Below.refl _ _⟩
end Go.Proofs.YtanimkkljbadpaaDoor
