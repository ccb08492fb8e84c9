/- Walk: QuoteRows. -/
import Derived.Test.YtanimkkljbadpaaDoorW10
set_option linter.unusedVariables false
set_option linter.unusedSimpArgs false
namespace Go.Proofs.YtanimkkljbadpaaDoor
open Go.Shelf Go.RowKit Q

/-- Texts that came in. -/
structure Txts (w : World) (A : Option Addr) (xs : List ByteArray) : Prop where
  mem : 1 ≤ xs.length → ∃ b off, A = some ⟨b, off, none⟩ ∧ b < w.heap.size ∧ ∀ i (h : i < xs.length), w.cell? ⟨b, off + i, none⟩ = some (.string xs[i])
def jq (xs : List ByteArray) : Bs := xs.flatMap fun x => quote (LS x)
theorem jq_len : ∀ (xs : List ByteArray), (∀ x ∈ xs, x.size ≤ 1000) → (jq xs).length ≤ 6002 * xs.length := by
  intro xs
  induction xs with
  | nil => intro _; simp [jq]
  | cons x xs ih =>
    intro h
    have h1 := ih (fun y hy => h y (List.mem_cons_of_mem _ hy))
    have h2 := quote_len (LS x)
    have h3 := h x (List.mem_cons_self ..)
    rw [LS_length] at h2
    unfold jq at h1 ⊢
    simp only [List.flatMap_cons, List.length_append, List.length_cons]
    omega
theorem jq_take (xs : List ByteArray) (i : Nat) (h : i < xs.length) : jq (xs.take i) ++ quote (LS xs[i]) = jq (xs.take (i + 1)) := by
  rw [← List.take_append_getElem h]; unfold jq; rw [List.flatMap_append, List.flatMap_singleton]
theorem jq_drop (xs : List ByteArray) (i : Nat) (h : i < xs.length) : jq (xs.drop i) = quote (LS xs[i]) ++ jq (xs.drop (i + 1)) := by
  rw [List.drop_eq_getElem_cons h]; rfl
theorem quote_any (w : World) (hT : Tabs w) (s : ByteArray) (q : Bs) (hs : s.size ≤ 17592186044416) (hq : quote (LS s) = q) : ∀ W, Below w.heap.size w W → Calls Tryd.prog 11 #[.string s] W fun e w' => e = .returned (.string (BA q)) ∧ Below w.heap.size w w' := by
  intro W hW
  refine (quote_ok s W (tabs_any hT hW) hs).mono ?_
  rintro e w' ⟨rfl, hb⟩
  rw [hq]
  exact ⟨rfl, step_any hW hb⟩
theorem read_any (w : World) (hT : Tabs w) (s : ByteArray) (r : Value) (hs : s.size ≤ 1099511627776) (hr : readV (readP (LS s)) = r) : ∀ W, Below w.heap.size w W → Calls Tryd.prog 10 #[.string s] W fun e w' => e = .returned r ∧ Below w.heap.size w w' := by
  intro W hW
  refine (read_ok s W (tabs_any hT hW) hs).mono ?_
  rintro e w' ⟨rfl, hb⟩
  rw [hr]
  exact ⟨rfl, step_any hW hb⟩

set_option maxHeartbeats 2000000 in
set_option maxRecDepth 100000 in
theorem rows_ok (A : Option Addr) (cap : Nat) (xs : List ByteArray) (w : World) (hT : Tabs w) (hX : Txts w A xs) (hn : xs.length ≤ maxLen) : Calls Tryd.prog 8 #[.slice A xs.length cap] w fun e w' => e = .returned (.bool true) ∧ Below w.heap.size w w' := by
  have HB := Aside.mk (Below.refl w.heap.size w)
  have H0 := Aside.mk (awake_at w hT)
  have HT := Aside.mk hT
  have HX := Aside.mk hX
  unfold maxLen at hn
  clear hT hX
  by_cases h30 : 30 < xs.length
  · clear HX
    generalize xs.length = n at *
    go_enter Tryd.func8, Tryd.ntmps8
    go_wp2_with (go_at_call 9; refine (H0.out _ HB.out).mono ?_; rintro e w1 ⟨rfl, hb⟩; clear HB; have HB := Aside.mk hb; clear hb)
    go_ret
    exact ⟨rfl, HB.out⟩
  · obtain ⟨n, hxn⟩ : ∃ n, xs.length = n := ⟨_, rfl⟩
    rw [hxn] at hn h30 ⊢
    have HN := Aside.mk hxn
    clear hxn
    go_enter Tryd.func8, Tryd.ntmps8
    go_wp2_with (go_at_call 9; refine (H0.out _ HB.out).mono ?_; rintro e w1 ⟨rfl, hb⟩; clear HB; have HB := Aside.mk hb; clear hb)
    go_loopw [3, 4] (fun v3 v4 wr => ∃ i : Nat, i ≤ n ∧ v4 = .int .i64 i ∧ v3 = .string (BA (jq (xs.take i))) ∧ Aside ((∀ x ∈ xs.take i, x.size ≤ 1000) ∧ Below w.heap.size w wr)) (fun _ v _ => n - (intOf v).toNat)
    case atStart => exact ⟨0, by omega, rfl, rfl, ⟨by simp, HB.out⟩⟩
    case round =>
      obtain ⟨i, hi, rfl, rfl, HR⟩ := hrel
      by_cases hlt : i < n
      · have hix : i < xs.length := by rw [HN.out]; exact hlt
        obtain ⟨b, off, rfl, hbw, hcs⟩ := HX.out.mem (by omega)
        have HCW : Aside (∀ W, Below w.heap.size w W → W.cell? ⟨b, off + i, none⟩ = some (.string xs[i])) := ⟨fun W h => (h.cell (p := ⟨b, off + i, none⟩) hbw).trans (hcs i hix)⟩
        have hcell := HCW.out wr HR.out.2
        have HJ := Aside.mk (jq_take xs i hix)
        have HSZ := Aside.mk (jq_len (xs.take i) HR.out.1)
        have hjl : (jq (xs.take i)).length ≤ 180060 := by have := HSZ.out; rw [List.length_take] at this; omega
        have HTK : Aside (xs[i].size ≤ 1000 → ∀ x ∈ xs.take (i + 1), x.size ≤ 1000) := ⟨fun h x hx => by
          rw [← List.take_append_getElem hix] at hx
          rcases List.mem_append.1 hx with hx | hx
          · exact HR.out.1 x hx
          · simp at hx; rw [hx]; exact h⟩
        clear hcs
        generalize xs[i] = x at *
        by_cases hx : 1000 < x.size
        · go_wp2_with fail
          go_ret
          exact ⟨rfl, HR.out.2⟩
        · have hx' := hx
          have HQ := Aside.mk (quote_any w HT.out x _ (by omega) rfl)
          have HRX := Aside.mk (runes_any w HT.out x _ _ (by omega) rfl rfl)
          have hql := quote_len (LS x)
          rw [LS_length] at hql
          have HRQ := Aside.mk (runes_any w HT.out (BA (quote (LS x))) _ _ (by rw [BA_size]; omega) rfl rfl)
          rw [LS_BA] at HRQ
          obtain ⟨t1, t2⟩ := toks_quote (LS x)
          have t3 := all_count (toks (LS x))
          have t4 := counts_le (LS x)
          have t5 := counts_le (quote (LS x))
          rw [LS_length] at t4
          rw [t1] at HRQ
          have HAP : Aside (BA (jq (xs.take i)) ++ BA (quote (LS x)) = BA (jq (xs.take (i + 1)))) := ⟨by rw [BA_append, HJ.out]⟩
          have hcat : (BA (jq (xs.take i))).size + (BA (quote (LS x))).size ≤ 9223372036854775807 := by rw [BA_size, BA_size]; omega
          have g1 : goods (toks (LS x)) ≤ 1000 := by omega
          have g2 : bads (toks (LS x)) ≤ 1000 := by omega
          have g3 : goods (toks (quote (LS x))) ≤ 6002 := by omega
          have g4 : ((goods (toks (LS x)) : Nat) : Int) + ((bads (toks (LS x)) : Nat) : Int) + 2 ≤ ((goods (toks (quote (LS x))) : Nat) : Int) := by omega
          have HTK' := Aside.mk (HTK.out (by omega))
          clear t1 t2 t3 t4 t5 hql HB
          generalize goods (toks (LS x)) = a at *
          generalize bads (toks (LS x)) = bb at *
          generalize goods (toks (quote (LS x))) = c at *
          generalize quote (LS x) = q at *
          have HB := Aside.mk HR.out.2
          go_wp2_with (first | (go_at_call 11; refine (HQ.out _ HB.out).mono ?_; rintro e w1 ⟨rfl, hb⟩; clear HB; have HB := Aside.mk hb; have hcell1 := HCW.out _ HB.out; clear hb) | (go_at_call 16; (first | (with_reducible refine (HRX.out _ HB.out).mono ?_) | (with_reducible refine (HRQ.out _ HB.out).mono ?_)); rintro e w1 ⟨rfl, hb⟩; clear HB; have HB := Aside.mk hb; clear hb))
          go_roundw
          case rel => exact ⟨i + 1, by omega, by go_num, by rw [HAP.out], ⟨HTK'.out, HB.out⟩⟩
          case measure => simp [intOf]; omega
      · have : i = n := by omega
        subst this
        rw [show xs.take i = xs by rw [← HN.out, List.take_length]] at HR ⊢
        have HSZ : Aside ((jq xs).length ≤ 180060) := ⟨by have := jq_len xs HR.out.1; have := HN.out; omega⟩
        have HWR := Aside.mk HR.out.2
        have HSM := Aside.mk HR.out.1
        clear HR HB
        go_wp2_with fail
        go_loopw [3, 10] (fun v3 v10 wr => ∃ j : Nat, j ≤ i ∧ v10 = .int .i64 j ∧ v3 = .string (BA (jq (xs.drop j))) ∧ Aside (Below w.heap.size w wr)) (fun _ v _ => i - (intOf v).toNat)
        case atStart => exact ⟨0, by omega, rfl, rfl, HWR⟩
        case round =>
          obtain ⟨j, hj, rfl, rfl, HR⟩ := hrel
          by_cases hlt2 : j < i
          · have hjx : j < xs.length := by rw [HN.out]; exact hlt2
            obtain ⟨b, off, rfl, hbw, hcs⟩ := HX.out.mem (by omega)
            have HCW : Aside (∀ W, Below w.heap.size w W → W.cell? ⟨b, off + j, none⟩ = some (.string xs[j])) := ⟨fun W h => (h.cell (p := ⟨b, off + j, none⟩) hbw).trans (hcs j hjx)⟩
            have hd := jq_drop xs j hjx
            have hdl := jq_len (xs.drop j) (fun x hx => HSM.out x (List.mem_of_mem_drop hx))
            rw [List.length_drop] at hdl
            have hx1 : BA (LS xs[j]) = xs[j] := BA_LS _
            have hrd : readV (readP (jq (xs.drop j))) = .tuple #[.string xs[j], .int .i64 (quote (LS xs[j])).length, .int .i64 0] := by
              rw [hd]; unfold readP; rw [read_quote fairP]; unfold readV; simp only [hx1]
            have hxi := HN.out
            have HRD := Aside.mk (read_any w HT.out (BA (jq (xs.drop j))) (.tuple #[.string xs[j], .int .i64 (quote (LS xs[j])).length, .int .i64 0]) (by rw [BA_size]; omega) (by rw [LS_BA]; exact hrd))
            have hml : (quote (LS xs[j])).length ≤ (BA (jq (xs.drop j))).size := by
              have := congrArg List.length hd
              rw [List.length_append] at this
              rw [BA_size]; omega
            have hm9 : (quote (LS xs[j])).length ≤ 180060 := by rw [hd, List.length_append] at hdl; omega
            have HNX : Aside ((BA (jq (xs.drop j))).extract (quote (LS xs[j])).length (BA (jq (xs.drop j))).size = BA (jq (xs.drop (j + 1)))) := ⟨by
              rw [← BA_LS (ByteArray.extract _ _ _), LS_extract _ _ hml, LS_BA, hd, List.drop_left]⟩
            clear hcs hd hdl hx1 hrd hxi
            generalize xs[j] = x at *
            generalize (quote (LS x)).length = m at *
            have HB := HR
            generalize BA (jq (xs.drop j)) = T at *
            go_wp2_with (go_at_call 10; refine (HRD.out _ HB.out).mono ?_; rintro e w1 ⟨rfl, hb⟩; clear HB; have HB := Aside.mk hb; have hcell1 := HCW.out _ HB.out; clear hb)
            go_roundw
            case rel => exact ⟨j + 1, by omega, by go_num, by rw [HNX.out], HB⟩
            case measure => simp [intOf]; omega
          · have hji : j = i := by omega
            subst hji
            rw [show xs.drop j = [] from List.drop_eq_nil_of_le (by rw [HN.out]; omega)]
            have hjq : BA (jq []) = ⟨#[]⟩ := rfl
            rw [hjq]
            go_wp2_with fail
            go_ret
            exact ⟨rfl, HR.out⟩
end Go.Proofs.YtanimkkljbadpaaDoor
