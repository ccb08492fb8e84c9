/- Walks: Runes, Cut. -/
import Derived.Test.YtanimkkljbadpaaDoorW2
set_option linter.unusedVariables false
set_option linter.unusedSimpArgs false
namespace Go.Proofs.YtanimkkljbadpaaDoor
open Go.Shelf Go.RowKit Q

theorem tabs_below {w w' : World} (h : Tabs w) (hb : Below w.heap.size w w') : Tabs w' := Utf8Tabs_below h hb
/-- In the midst of a range over a text. -/
structure At (w wr : World) (s : ByteArray) (k pos : Nat) : Prop where
  it : wr.heap[k]? = some (.stringIter s pos)
  below : Below w.heap.size w wr
  tabs : Tabs w
  ge : w.heap.size ≤ k
theorem At.tabs' {w wr : World} {s : ByteArray} {k pos : Nat} (h : At w wr s k pos) : Tabs wr := tabs_below h.tabs h.below
theorem At.next {w wr : World} {s : ByteArray} {k pos : Nat} (h : At w wr s k pos) (pos' : Nat) : At w (wr.iterAt k s pos') s k pos' :=
  ⟨Lib.iterAt_heap wr k s pos pos' h.it, Lib.below_iterAt h.below h.ge s pos', h.tabs, h.ge⟩
theorem At.step {w wr w1 : World} {s : ByteArray} {k pos : Nat} (h : At w wr s k pos) (hb : Below wr.heap.size wr w1) : At w w1 s k pos :=
  ⟨(hb.block k (Array.getElem?_eq_some_iff.1 h.it).1).trans h.it, h.below.trans (hb.mono h.below.size), h.tabs, h.ge⟩
theorem At.pos {w wr : World} {s : ByteArray} {k pos : Nat} (h : At w wr s k pos) : wr.iterPos k = pos := by simp [World.iterPos, h.it]

theorem goods_le (ts : List Bs) : goods ts ≤ ts.length := by have := all_count ts; omega
theorem toks_le (L : Bs) : (toks L).length ≤ L.length := by
  have key : ∀ n (l : Bs), l.length ≤ n → (toks l).length ≤ l.length := by
    intro n
    induction n with
    | zero => intro l h; have : l = [] := by cases l <;> simp_all
              subst this; simp [toks_nil]
    | succ n ih =>
      intro l h
      by_cases e : l = []
      · subst e; simp [toks_nil]
      · have h1 := tokLen_pos l
        have h2 := tokLen_le e
        have h3 := ih (l.drop (tokLen l)) (by simp; omega)
        rw [toks_cons e]
        simp at h3 ⊢
        omega
  exact key L.length L (Nat.le_refl _)
theorem prefix_le {L : Bs} {ps qs : List Bs} (h : toks L = ps ++ qs) : ps.length ≤ L.length ∧ ps.flatten.length ≤ L.length := by
  have h1 := toks_le L
  have h2 := toks_flatten L
  rw [h] at h1 h2
  rw [List.flatten_append] at h2
  have h3 : L.length = ps.flatten.length + qs.flatten.length := by rw [← List.length_append, h2]
  simp at h1
  omega

def RunesPost (s : ByteArray) (w : World) (e : Ending) (w' : World) : Prop :=
  e = .returned (.tuple #[.int .i64 (goods (toks (LS s))), .int .i64 (bads (toks (LS s)))]) ∧ Below w.heap.size w w'

set_option maxHeartbeats 1000000 in
set_option maxRecDepth 100000 in
theorem runes_ok (s : ByteArray) (w : World) (hT : Tabs w) (hs : s.size ≤ 140737488355328) : Calls Tryd.prog 16 #[.string s] w (RunesPost s w) := by
  have HT := Aside.mk hT
  have hL := LS_length s
  have HL := Aside.mk hL
  clear hT hL
  go_enter Tryd.func16, Tryd.ntmps16
  go_wp2_with fail
  go_loopw [2, 3] (fun v2 v3 wr => ∃ (ps qs : List Bs), toks (LS s) = ps ++ qs ∧ v2 = .int .i64 (goods ps) ∧ v3 = .int .i64 (bads ps) ∧ Aside (At w wr s w.heap.size ps.flatten.length)) (fun _ _ wr => s.size - wr.iterPos w.heap.size)
  case atStart =>
    refine ⟨[], toks (LS s), rfl, rfl, rfl, ⟨?_, (Below.refl _ _).alloc (Nat.le_refl _) _, HT.out, Nat.le_refl _⟩⟩
    have := World.iter_heap w s 0
    simpa using this
  case round =>
    obtain ⟨ps, qs, hpq, rfl, rfl, HA⟩ := hrel
    have hpl := prefix_le hpq
    have hcp := all_count ps
    have hg : goods ps < 140737488355329 := by have := HL.out; omega
    have hb : bads ps < 140737488355329 := by have := HL.out; omega
    by_cases hp : ps.flatten.length < s.size
    · obtain ⟨u, qs', rfl, hu, hul, htok, hgood, hnext, hfl, hle⟩ := at_pos hpq (by rw [HL.out]; exact hp)
      have hnx : ∀ ty, (Instr.next (.pointer (some ⟨w.heap.size, 0, none⟩)) true ty).run Tryd.prog wr = _ := fun ty => Lib.run_next_any_at wr w.heap.size s ps.flatten.length ty HA.out.it hp
      rw [decode_width s _ hp, hul] at hnx
      have HA2 := Aside.mk (HA.out.next (ps.flatten.length + u.length))
      have HW := Aside.mk (wrong_ok s ps.flatten.length _ HA2.out.tabs' hp (by omega))
      have HN := Aside.mk hnext
      have HF := Aside.mk hfl
      have HM := Aside.mk (show u.length ≠ 0 by rcases htok with ⟨v, h⟩ | ⟨b, rfl, _⟩; exact (by have := kind_len h; omega); simp)
      have HPL := Aside.mk hle
      have HP := Aside.mk HA.out.pos
      clear hnext hfl hu hul htok hpq hcp hle
      generalize ps.flatten.length = pos at *
      generalize u.length = ul at *
      cases hgd : good u with
      | true =>
        have hne : ¬ (dec ((LS s).drop pos)).2 = 0 := hgood.1 hgd
        rw [decide_eq_false hne] at HW
        have HG := Aside.mk (show goods (ps ++ [u]) = goods ps + 1 ∧ bads (ps ++ [u]) = bads ps by rw [goods_append, bads_append]; simp [goods, bads, hgd])
        clear hgood hne hgd hpl
        generalize goods ps = gp at *
        generalize bads ps = bp at *
        go_wp2_with (go_at_call 22; refine HW.out.mono ?_; rintro e w1 ⟨rfl, hbw⟩)
        go_roundw
        case rel => exact ⟨ps ++ [u], qs', HN.out, by rw [HG.out.1]; go_num, by rw [HG.out.2], by rw [← HF.out]; exact ⟨HA2.out.step hbw⟩⟩
        case measure =>
          have := (HA2.out.step hbw).pos
          have := HP.out
          have := HM.out
          omega
      | false =>
        have hne : (dec ((LS s).drop pos)).2 = 0 := by
          by_cases q : (dec ((LS s).drop pos)).2 = 0
          · exact q
          · rw [hgood.2 q] at hgd; exact absurd hgd (by simp)
        rw [decide_eq_true hne] at HW
        have HG := Aside.mk (show goods (ps ++ [u]) = goods ps ∧ bads (ps ++ [u]) = bads ps + 1 by rw [goods_append, bads_append]; simp [goods, bads, hgd])
        clear hgood hne hgd hpl
        generalize goods ps = gp at *
        generalize bads ps = bp at *
        go_wp2_with (go_at_call 22; refine HW.out.mono ?_; rintro e w1 ⟨rfl, hbw⟩)
        go_roundw
        case rel => exact ⟨ps ++ [u], qs', HN.out, by rw [HG.out.1], by rw [HG.out.2]; go_num, by rw [← HF.out]; exact ⟨HA2.out.step hbw⟩⟩
        case measure =>
          have := (HA2.out.step hbw).pos
          have := HP.out
          have := HM.out
          omega
    · obtain ⟨rfl, hps⟩ := at_end hpq (by rw [HL.out]; exact hp)
      have hnx : ∀ ty, (Instr.next (.pointer (some ⟨w.heap.size, 0, none⟩)) true ty).run Tryd.prog wr = _ := fun ty => Lib.run_next_end_at wr w.heap.size s ps.flatten.length ty HA.out.it hp
      have HPS := Aside.mk hps
      clear hps hpq hpl hcp
      go_wp2_with fail
      go_ret2
      exact ⟨by rw [← HPS.out]; rfl, HA.out.below⟩
end Go.Proofs.YtanimkkljbadpaaDoor
