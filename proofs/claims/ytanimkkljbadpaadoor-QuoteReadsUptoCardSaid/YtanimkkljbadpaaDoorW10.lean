/- Walk: QuoteCuts. -/
import Derived.Test.YtanimkkljbadpaaDoorW9
set_option linter.unusedVariables false
set_option linter.unusedSimpArgs false
namespace Go.Proofs.YtanimkkljbadpaaDoor
open Go.Shelf Go.RowKit Q

theorem cut_any (w : World) (hT : Tabs w) (s c : ByteArray) (n : Int) (hs : s.size ≤ 140737488355328) (hc : LS c = cut (LS s) n) : ∀ W, Below w.heap.size w W → Calls Tryd.prog 12 #[.string s, .int .i64 n] W fun e w' => e = .returned (.string c) ∧ Below w.heap.size w w' := by
  intro W hW
  refine (cut_ok s n W (tabs_any hT hW) hs).mono ?_
  rintro e w' ⟨rfl, hbw⟩
  have : s.extract 0 (cutLen (LS s) n) = c := by
    rw [← BA_LS c, hc]; unfold cut; rw [← BA_LS (s.extract _ _), LS_take]
  rw [this]
  exact ⟨rfl, step_any hW hbw⟩
theorem runes_any (w : World) (hT : Tabs w) (s : ByteArray) (a b : Int) (hs : s.size ≤ 140737488355328) (ha : (goods (toks (LS s)) : Int) = a) (hb : (bads (toks (LS s)) : Int) = b) : ∀ W, Below w.heap.size w W → Calls Tryd.prog 16 #[.string s] W fun e w' => e = .returned (.tuple #[.int .i64 a, .int .i64 b]) ∧ Below w.heap.size w w' := by
  intro W hW
  refine (runes_ok s W (tabs_any hT hW) hs).mono ?_
  rintro e w' ⟨rfl, hbw⟩
  rw [ha, hb]
  exact ⟨rfl, step_any hW hbw⟩
theorem counts_le (l : Bs) : goods (toks l) ≤ l.length ∧ bads (toks l) ≤ l.length := by
  have h1 := all_count (toks l)
  have h2 := toks_le l
  omega

/-- The road of a text's cut. -/
def cutsOK (s : ByteArray) (n : Int) (w : World) (e : Ending) (w' : World) : Prop := e = .returned (.bool true) ∧ Below w.heap.size w w'

set_option maxHeartbeats 2000000 in
set_option maxRecDepth 100000 in
theorem cuts_ok (s : ByteArray) (n : Int) (w : World) (hT : Tabs w) (hs : s.size ≤ 140737488355328) (hn1 : -9223372036854775808 ≤ n) (hn2 : n ≤ 9223372036854775807) : Calls Tryd.prog 7 #[.string s, .int .i64 n] w (cutsOK s n w) := by
  have HB := Aside.mk (Below.refl w.heap.size w)
  have H0 := Aside.mk (awake_at w hT)
  obtain ⟨f1, f2, f3, f4, f5, f6, f7, f8, f9⟩ := cut_facts (LS s) n
  have hL := LS_length s
  obtain ⟨c, hc⟩ : ∃ c : ByteArray, LS c = cut (LS s) n := ⟨BA (cut (LS s) n), LS_BA _⟩
  have hcs : (cut (LS s) n).length = c.size := by rw [← hc, LS_length]
  have H1 := Aside.mk (cut_any w hT s c n hs hc)
  have hle : c.size ≤ s.size := by omega
  have H5 := Aside.mk (cut_any w hT c c n (by omega) (by rw [hc]; exact f7.symm))
  have hpre : s.extract 0 c.size = c := by
    have e1 : LS (s.extract 0 c.size) = LS c := by rw [LS_take, hc, ← hcs]; exact f1.symm
    rw [← BA_LS (s.extract 0 c.size), e1, BA_LS]
  have hr2 : LS (s.extract c.size s.size) = (LS s).drop c.size := LS_extract s c.size hle
  have k1 := counts_le (LS s)
  have k2 := counts_le (LS c)
  have k3 := counts_le (LS (s.extract c.size s.size))
  rw [hr2] at k3
  rw [LS_length] at k1 k2
  rw [List.length_drop, LS_length] at k3
  rw [hcs] at f8 f9
  rw [← hc] at f8 f9
  have hsz2 : (s.extract c.size s.size).size ≤ 140737488355328 := by rw [← LS_length, hr2, List.length_drop, LS_length]; omega
  have H2 := Aside.mk (runes_any w hT c _ _ (by omega) rfl rfl)
  have H3 := Aside.mk (runes_any w hT (s.extract c.size s.size) _ _ hsz2 rfl rfl)
  have H4 := Aside.mk (runes_any w hT s _ _ hs rfl rfl)
  rw [hr2] at H3
  have g8 : ((goods (toks (LS c)) : Nat) : Int) + ((goods (toks ((LS s).drop c.size)) : Nat) : Int) = ((goods (toks (LS s)) : Nat) : Int) := by omega
  have g9 : ((bads (toks (LS c)) : Nat) : Int) + ((bads (toks ((LS s).drop c.size)) : Nat) : Int) = ((bads (toks (LS s)) : Nat) : Int) := by omega
  have p1 : n < 0 → c = ⟨#[]⟩ := fun h => by rw [← BA_LS c, hc, f3 h]; rfl
  have p2 : 0 ≤ n → (c.size : Int) ≤ n := fun h => by have := f4 h; omega
  have p3 : (s.size : Int) ≤ n → c = s := fun h => by rw [← BA_LS c, hc, f5 (by omega), BA_LS]
  have p4 : n < s.size → n - 3 ≤ c.size := fun h => by have := f6 (by omega); omega
  have p5 : c = s → goods (toks (LS c)) = goods (toks (LS s)) ∧ bads (toks (LS c)) = bads (toks (LS s)) := by rintro rfl; exact ⟨rfl, rfl⟩
  have p6 : c = ⟨#[]⟩ → goods (toks (LS c)) = 0 ∧ bads (toks (LS c)) = 0 ∧ goods (toks ((LS s).drop c.size)) = goods (toks (LS s)) ∧ bads (toks ((LS s).drop c.size)) = bads (toks (LS s)) := by rintro rfl; exact ⟨rfl, rfl, rfl, rfl⟩
  clear hc hcs f1 f2 f3 f4 f5 f6 f7 f8 f9 hr2 hL hsz2
  generalize goods (toks (LS c)) = a1 at *
  generalize bads (toks (LS c)) = b1 at *
  generalize goods (toks ((LS s).drop c.size)) = a2 at *
  generalize bads (toks ((LS s).drop c.size)) = b2 at *
  generalize goods (toks (LS s)) = a3 at *
  generalize bads (toks (LS s)) = b3 at *
  by_cases hneg : n < 0
  · obtain ⟨rfl, rfl, rfl, rfl⟩ := p6 (p1 hneg)
    obtain rfl := p1 hneg
    simp only [show (⟨#[]⟩ : ByteArray).size = 0 from rfl] at *
    clear p1 p2 p3 p4 p5 p6 hT
    go_enter Tryd.func7, Tryd.ntmps7
    go_wp2_with (first | (go_at_call 9; refine (H0.out _ HB.out).mono ?_; rintro e w1 ⟨rfl, hb⟩; clear HB; have HB := Aside.mk hb; clear hb) | (go_at_call 16; (first | (with_reducible refine (H2.out _ HB.out).mono ?_) | (with_reducible refine (H3.out _ HB.out).mono ?_) | (with_reducible refine (H4.out _ HB.out).mono ?_)); rintro e w1 ⟨rfl, hb⟩; clear HB; have HB := Aside.mk hb; clear hb) | (go_at_call 12; (first | (with_reducible refine (H1.out _ HB.out).mono ?_) | (with_reducible refine (H5.out _ HB.out).mono ?_)); rintro e w1 ⟨rfl, hb⟩; clear HB; have HB := Aside.mk hb; clear hb))
    go_ret
    exact ⟨rfl, HB.out⟩
  · by_cases hbig : (s.size : Int) ≤ n
    · obtain ⟨rfl, rfl⟩ := p5 (p3 hbig)
      obtain rfl := p3 hbig
      obtain rfl : a2 = 0 := by omega
      obtain rfl : b2 = 0 := by omega
      have he : c.extract c.size c.size = ByteArray.empty := by simp
      rw [he] at H3
      clear p1 p2 p3 p4 p5 p6 hT
      go_enter Tryd.func7, Tryd.ntmps7
      go_wp2_with (first | (go_at_call 9; refine (H0.out _ HB.out).mono ?_; rintro e w1 ⟨rfl, hb⟩; clear HB; have HB := Aside.mk hb; clear hb) | (go_at_call 16; (first | (with_reducible refine (H2.out _ HB.out).mono ?_) | (with_reducible refine (H3.out _ HB.out).mono ?_) | (with_reducible refine (H4.out _ HB.out).mono ?_)); rintro e w1 ⟨rfl, hb⟩; clear HB; have HB := Aside.mk hb; clear hb) | (go_at_call 12; (first | (with_reducible refine (H1.out _ HB.out).mono ?_) | (with_reducible refine (H5.out _ HB.out).mono ?_)); rintro e w1 ⟨rfl, hb⟩; clear HB; have HB := Aside.mk hb; clear hb))
      go_ret
      exact ⟨rfl, HB.out⟩
    · have q1 := p2 (by omega)
      have q2 := p4 (by omega)
      clear p1 p2 p3 p4 p5 p6 hT
      go_enter Tryd.func7, Tryd.ntmps7
      go_wp2_with (first | (go_at_call 9; refine (H0.out _ HB.out).mono ?_; rintro e w1 ⟨rfl, hb⟩; clear HB; have HB := Aside.mk hb; clear hb) | (go_at_call 16; (first | (with_reducible refine (H2.out _ HB.out).mono ?_) | (with_reducible refine (H3.out _ HB.out).mono ?_) | (with_reducible refine (H4.out _ HB.out).mono ?_)); rintro e w1 ⟨rfl, hb⟩; clear HB; have HB := Aside.mk hb; clear hb) | (go_at_call 12; (first | (with_reducible refine (H1.out _ HB.out).mono ?_) | (with_reducible refine (H5.out _ HB.out).mono ?_)); rintro e w1 ⟨rfl, hb⟩; clear HB; have HB := Aside.mk hb; clear hb))
      go_ret
      exact ⟨rfl, HB.out⟩
end Go.Proofs.YtanimkkljbadpaaDoor
