/- Walk: QuoteReads. -/
import Derived.Test.YtanimkkljbadpaaDoorW12
import Derived.Test.YtanimkkljbadpaaDoorR4
set_option linter.unusedVariables false
set_option linter.unusedSimpArgs false
namespace Go.Proofs.YtanimkkljbadpaaDoor
open Go.Shelf Go.RowKit Q

/-- What the two read of a text. -/
theorem both_read (w : World) (hT : Tabs w) (t : ByteArray) (ht : t.size ≤ 1099511627776) :
    ∃ (v : ByteArray) (n : Int) (ok : Bool) (e : Int),
      (∀ W, Below w.heap.size w W → Calls Tryd.prog 10 #[.string t] W fun r w' => r = .returned (.tuple #[.string v, .int .i64 n, .int .i64 e]) ∧ Below w.heap.size w w') ∧
      (∀ W, Below w.heap.size w W → Calls Tryd.prog 15 #[.string t] W fun r w' => r = .returned (.tuple #[.string v, .int .i64 n, .bool ok]) ∧ Below w.heap.size w w') ∧
      ((ok = true ∧ e = 0) ∨ (ok = false ∧ e = 3 ∧ v = ⟨#[]⟩ ∧ n = 0)) := by
  cases h : readP (LS t) with
  | none => exact ⟨⟨#[]⟩, 0, false, 3, read_any w hT t _ ht (by rw [h]; rfl), RefB.refRead_any w t _ _ _ ht (by rw [h]; rfl), .inr ⟨rfl, rfl, rfl, rfl⟩⟩
  | some p =>
    obtain ⟨a, n⟩ := p
    exact ⟨BA a, n, true, 0, read_any w hT t _ ht (by rw [h]; rfl), RefB.refRead_any w t _ _ _ ht (by rw [h]; rfl), .inl ⟨rfl, rfl⟩⟩

set_option maxHeartbeats 2000000 in
set_option maxRecDepth 100000 in
theorem reads_ok (s put : ByteArray) (told : Bool) (at_ : Int) (w : World) (hT : Tabs w) (hs : s.size ≤ 1048576) (hs2 : put.size ≤ 1048576) (ha1 : -9223372036854775808 ≤ at_) (ha2 : at_ ≤ 9223372036854775807) :
    Calls Tryd.prog 5 #[.string s, .bool told, .int .i64 at_, .string put] w (cutsOK s 0 w) := by
  have HB := Aside.mk (Below.refl w.heap.size w)
  have H0 := Aside.mk (awake_at w hT)
  have hql := quote_len (LS s)
  rw [LS_length] at hql
  cases told with
  | false =>
    obtain ⟨v, n, ok, er, h1, h2, h3⟩ := both_read w hT s (by omega)
    have H1 := Aside.mk h1
    have H2 := Aside.mk h2
    clear h1 h2 hql hT
    rcases h3 with ⟨rfl, rfl⟩ | ⟨rfl, rfl, rfl, rfl⟩
    all_goals
      go_enter Tryd.func5, Tryd.ntmps5
      go_wp2_with (first | (go_at_call 9; refine (H0.out _ HB.out).mono ?_; rintro e w1 ⟨rfl, hb⟩; clear HB; have HB := Aside.mk hb; clear hb) | (go_at_call 10; refine (H1.out _ HB.out).mono ?_; rintro e w1 ⟨rfl, hb⟩; clear HB; have HB := Aside.mk hb; clear hb) | (go_at_call 15; refine (H2.out _ HB.out).mono ?_; rintro e w1 ⟨rfl, hb⟩; clear HB; have HB := Aside.mk hb; clear hb))
      go_ret
      exact ⟨rfl, HB.out⟩
  | true =>
    have H3 := Aside.mk (RefB.refQuote_any w s _ (by omega) rfl)
    have hqz : (BA (quote (LS s))).size ≤ 6291458 := by rw [BA_size]; omega
    clear hql
    generalize BA (quote (LS s)) = q at *
    by_cases hr : 0 ≤ at_ ∧ at_ < q.size
    · obtain ⟨r1, r2⟩ := hr
      obtain ⟨m, rfl⟩ := Int.eq_ofNat_of_zero_le r1
      have hm : m < q.size := by omega
      have z1 : (q.extract 0 m).size = m := by rw [ByteArray.size_extract]; omega
      have z2 : (q.extract (m + 1) q.size).size = q.size - (m + 1) := by rw [ByteArray.size_extract]; omega
      have z3 : (q.extract 0 m ++ put).size = m + put.size := by rw [ByteArray.size_append, z1]
      obtain ⟨v, n, ok, er, h1, h2, h3⟩ := both_read w hT (q.extract 0 m ++ put ++ q.extract (m + 1) q.size) (by rw [ByteArray.size_append, z3, z2]; omega)
      have H1 := Aside.mk h1
      have H2 := Aside.mk h2
      have c1 : (q.extract 0 m).size + put.size ≤ 9223372036854775807 := by omega
      have c2 : (q.extract 0 m ++ put).size + (q.extract (m + 1) q.size).size ≤ 9223372036854775807 := by omega
      clear h1 h2 hT
      rcases h3 with ⟨rfl, rfl⟩ | ⟨rfl, rfl, rfl, rfl⟩
      all_goals
        have hwr : IntKind.i64.wrap ((m : Int) + 1) = (m : Int) + 1 := by rw [IntKind.wrap_i64]; omega
        go_enter Tryd.func5, Tryd.ntmps5
        go_wp2_with (first | (go_at_call 9; refine (H0.out _ HB.out).mono ?_; rintro e w1 ⟨rfl, hb⟩; clear HB; have HB := Aside.mk hb; clear hb) | (go_at_call 13; refine (H3.out _ HB.out).mono ?_; rintro e w1 ⟨rfl, hb⟩; clear HB; have HB := Aside.mk hb; clear hb))
        go_region
        all_goals
          have HD := Aside.mk HB.out.drew
          clear HB
          have HB := HD
          clear HD
          go_wp2_with (first | (go_at_call 10; refine (H1.out _ HB.out).mono ?_; rintro e w1 ⟨rfl, hb⟩; clear HB; have HB := Aside.mk hb; clear hb) | (go_at_call 15; refine (H2.out _ HB.out).mono ?_; rintro e w1 ⟨rfl, hb⟩; clear HB; have HB := Aside.mk hb; clear hb))
          go_ret
          exact ⟨rfl, HB.out⟩
    · obtain ⟨v, n, ok, er, h1, h2, h3⟩ := both_read w hT q (by omega)
      have H1 := Aside.mk h1
      have H2 := Aside.mk h2
      clear h1 h2 hT
      have hr' : at_ < 0 ∨ (q.size : Int) ≤ at_ := by omega
      clear hr
      rcases hr' with hr' | hr'
      all_goals
        rcases h3 with ⟨rfl, rfl⟩ | ⟨rfl, rfl, rfl, rfl⟩
        all_goals
          go_enter Tryd.func5, Tryd.ntmps5
          go_wp2_with (first | (go_at_call 9; refine (H0.out _ HB.out).mono ?_; rintro e w1 ⟨rfl, hb⟩; clear HB; have HB := Aside.mk hb; clear hb) | (go_at_call 10; refine (H1.out _ HB.out).mono ?_; rintro e w1 ⟨rfl, hb⟩; clear HB; have HB := Aside.mk hb; clear hb) | (go_at_call 15; refine (H2.out _ HB.out).mono ?_; rintro e w1 ⟨rfl, hb⟩; clear HB; have HB := Aside.mk hb; clear hb) | (go_at_call 13; refine (H3.out _ HB.out).mono ?_; rintro e w1 ⟨rfl, hb⟩; clear HB; have HB := Aside.mk hb; clear hb))
          go_ret
          exact ⟨rfl, HB.out⟩
end Go.Proofs.YtanimkkljbadpaaDoor
