/- Walk: QuoteTells. -/
import Derived.Test.YtanimkkljbadpaaDoorW12
import Derived.Test.YtanimkkljbadpaaDoorR2
set_option linter.unusedVariables false
set_option linter.unusedSimpArgs false
namespace Go.Proofs.YtanimkkljbadpaaDoor
open Go.Shelf Go.RowKit Q

set_option maxHeartbeats 2000000 in
set_option maxRecDepth 100000 in
theorem tells_ok (s behind : ByteArray) (w : World) (hT : Tabs w) (hs : s.size ≤ 1048576) (hs2 : behind.size ≤ 1048576) : Calls Tryd.prog 4 #[.string s, .string behind] w (cutsOK s 0 w) := by
  have HB := Aside.mk (Below.refl w.heap.size w)
  have H0 := Aside.mk (awake_at w hT)
  have hql := quote_len (LS s)
  rw [LS_length] at hql
  obtain ⟨q, hq⟩ : ∃ q : ByteArray, BA (quote (LS s)) = q := ⟨_, rfl⟩
  have hqs : LS q = quote (LS s) := by rw [← hq, LS_BA]
  have hqz : q.size = (quote (LS s)).length := by rw [← LS_length, hqs]
  have H1 := Aside.mk (quote_any w hT s _ (by omega) rfl)
  have H2 := Aside.mk (RefB.refQuote_any w s _ (by omega) rfl)
  rw [hq] at H1 H2
  have H3 := Aside.mk (read_any w hT (q ++ behind) (.tuple #[.string s, .int .i64 q.size, .int .i64 0]) (by rw [ByteArray.size_append]; omega) (by
    have e : LS (q ++ behind) = quote (LS s) ++ LS behind := by
      have h1 : q ++ behind = BA (quote (LS s) ++ LS behind) := by rw [← BA_append, BA_LS, hq]
      rw [h1, LS_BA]
    rw [e]; unfold readP; rw [read_quote fairP]; unfold readV; simp only [BA_LS, hqz]))
  have hbad := (toks_quote (LS s)).1
  have H4 := Aside.mk (RefA.refRunes_any w q (goods (toks (LS q)) : Int) 0 (by omega) rfl (by rw [hqs, hbad]; rfl))
  have hfine : ∀ (i : Nat) (h : i < q.size), ¬ (q[i]).toNat = 10 := fun i h => by
    have h1 := quote_fine (LS s) (q[i])
    apply h1
    rw [← hqs]
    have := head_at q i h
    have hm : q[i] ∈ (LS q).drop i := by rw [this]; exact List.mem_cons_self ..
    exact List.mem_of_mem_drop hm
  have HF := Aside.mk hfine
  have hcat : q.size + behind.size ≤ 9223372036854775807 := by omega
  have hq9 : q.size ≤ 6291458 := by omega
  clear hfine hbad hqs hqz hq hql hT
  generalize ((goods (toks (LS q)) : Nat) : Int) = a at *
  go_enter Tryd.func4, Tryd.ntmps4
  go_wp2_with (first | (go_at_call 9; refine (H0.out _ HB.out).mono ?_; rintro e w1 ⟨rfl, hb⟩; clear HB; have HB := Aside.mk hb; clear hb) | (go_at_call 11; refine (H1.out _ HB.out).mono ?_; rintro e w1 ⟨rfl, hb⟩; clear HB; have HB := Aside.mk hb; clear hb) | (go_at_call 13; refine (H2.out _ HB.out).mono ?_; rintro e w1 ⟨rfl, hb⟩; clear HB; have HB := Aside.mk hb; clear hb) | (go_at_call 10; refine (H3.out _ HB.out).mono ?_; rintro e w1 ⟨rfl, hb⟩; clear HB; have HB := Aside.mk hb; clear hb) | (go_at_call 14; refine (H4.out _ HB.out).mono ?_; rintro e w1 ⟨rfl, hb⟩; clear HB; have HB := Aside.mk hb; clear hb))
  go_loop [11] (fun v11 => ∃ i : Nat, i ≤ q.size ∧ v11 = .int .i64 i) (fun v => q.size - (intOf v).toNat)
  case atStart => exact ⟨0, by omega, rfl⟩
  case round =>
    obtain ⟨i, hi, rfl⟩ := hrel
    by_cases hlt : i < q.size
    · have hf := HF.out i hlt
      go_wp2_with fail
      go_round
      case rel => exact ⟨i + 1, by omega, by go_num⟩
      case measure => simp [intOf]; omega
    · have : i = q.size := by omega
      subst this
      go_wp2_with fail
      go_ret
      exact ⟨rfl, HB.out⟩
end Go.Proofs.YtanimkkljbadpaaDoor
