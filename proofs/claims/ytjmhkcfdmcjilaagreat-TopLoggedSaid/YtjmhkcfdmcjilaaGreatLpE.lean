/-
  flat.New and slices.Repeat for small capacities.
-/
import Derived.Test.YtjmhkcfdmcjilaaGreatFiI
/- Reckoned: flat.New and slices.Repeat for small capacities. -/
/- Walks: flat.New of the greatest map, span.Fold. -/
set_option linter.unusedVariables false
set_option linter.unusedSimpArgs false
namespace Go.Proofs.YtjmhkcfdmcjilaaGreat
namespace Fi
open Go.RowKit Ai

def newH : H := ⟨.node (.none) (.node (.row 512 (.leaf (.i .i64 (.negSucc 0))) 3 1 false) (.leaf (.none)) (.leaf (.none))) (.node (.row 2 (.node (.i .i64 (.ofNat 512)) (.leaf (.sl 1 0 512 512 false)) (.leaf (.i .i64 (.ofNat 512)))) 158 2 false) (.leaf (.none)) (.leaf (.none))), 3⟩
def newEn : En := ⟨41, [.w (.s (.i .i64 (.ofNat 512))), .w (.s (.i .i64 (.ofNat 512)))], ⟨.leaf .none, 0⟩, .t [.s (.p 2 0), .s (.i .i64 (.ofNat 0))], newH⟩
theorem newEn_part : partOk Tryz.prog natU 300 newEn = true := by kernel_rfl
theorem newEn_ok : EnOk Tryz.prog newEn := part_ok mixed named natU_ok newEn_part

theorem new512_ok (w : World) : Calls Tryz.prog 41 #[.int .i64 512, .int .i64 512] w fun e w' => ∃ m g, e = .returned (.tuple #[.pointer (some ⟨m, 0, none⟩), .int .i64 0]) ∧ w.heap.size ≤ m ∧ Flat w' m 512 g 512 (List.replicate 512 (-1)) ∧ Below w.heap.size w w' := by
  have ga : Ga w.heap.size w (fun _ => none) newEn.h w := by
    have hget : ∀ m, newEn.h.get m = .none := fun m => Tr.get_leaf _ _
    refine ⟨Below.refl _ _, Nat.le_refl _, fun _ _ => rfl, fun m hm => ?_, fun m hm => ?_, fun m _ y _ hm _ hy => ?_⟩
    · exact absurd (hget m) hm
    · rw [hget m] at hm; cases hm
    · cases hy
  rcases newEn_ok w.heap.size w _ w #[.int .i64 512, .int .i64 512] ga rfl with ⟨u', w', h1, _⟩ | ⟨_, h2⟩
  · exfalso
    have h3 : (callFunc 41 #[.int .i64 512, .int .i64 512]).run Tryz.prog w = .ok (.value u') w' := h1
    rw [enter_run Tryz.func41 rfl] at h3
    cases h3
  · refine h2.mono fun x w' ⟨u', hx, ν', _, k2, k3⟩ => ?_
    obtain ⟨b, sl, cur, h1, h2, h3, h4, h5, h6, h7⟩ := k2.row (n := 2) (k := 2) (t := .node (.i .i64 (.ofNat 512)) (.leaf (.sl 1 0 512 512 false)) (.leaf (.i .i64 (.ofNat 512)))) (e := 158) (z := 2) (o := false) rfl
    obtain ⟨b', sl', cur', j1, j2, j3, j4, j5, j6, j7⟩ := k2.row (n := 1) (k := 512) (t := .leaf (.i .i64 (.negSucc 0))) (e := 3) (z := 1) (o := false) rfl
    obtain rfl := h7 rfl
    obtain rfl := j7 rfl
    have hc0 : cur[0]? = some (.int .i64 512) := by
      rcases h5.2 0 (by omega) with e | ⟨v, e1, e2⟩
      · rw [Tr.get_zero] at e; cases e
      · rw [e1, ← Option.some.inj e2]; rfl
    have hc1 : cur[1]? = some (.slice (some ⟨b', 0, none⟩) 512 512) := by
      rcases h5.2 1 (by omega) with e | ⟨v, e1, e2⟩
      · rw [Tr.get_succ] at e; cases e
      · rw [e1]
        have e3 : cvS ν' (.sl 1 0 512 512 false) = some v := e2
        have e4 := sl_mk 0 512 512 false j1
        rw [show cvV ν' (.w (.s (.sl 1 0 512 512 false))) = some v from e3] at e4
        exact e4
    have hcur : cur = #[.int .i64 512, .slice (some ⟨b', 0, none⟩) 512 512] := by
      apply Array.ext_getElem?
      intro i
      rcases i with _ | _ | i
      · exact hc0
      · exact hc1
      · rw [Array.getElem?_eq_none (by omega), Array.getElem?_eq_none (by simp)]
    have hcur2 : ∀ i, i < 512 → cur'[i]? = some (.int .i64 (-1)) := fun i hi => by
      rcases j5.2 i hi with e | ⟨v, e1, e2⟩
      · rw [Tr.get_leaf] at e; cases e
      · rw [Tr.get_leaf] at e2
        exact e1.trans (congrArg some (Option.some.inj e2).symm)
    have hcur' : cur'.toList = intsV (List.replicate 512 (-1)) := by
      apply List.ext_getElem?
      intro i
      rw [intsV, List.getElem?_map, List.getElem?_replicate]
      by_cases hi : i < 512
      · rw [if_pos hi, Array.getElem?_toList]
        exact hcur2 i hi
      · rw [if_neg hi, List.getElem?_eq_none (by rw [Array.length_toList]; omega)]; rfl
    have hu : u' = .tuple #[.pointer (some ⟨b, 0, none⟩), .int .i64 0] := by
      have e1 : cvV ν' (.t [.s (.p 2 0), .s (.i .i64 (.ofNat 0))]) = some u' := k3
      simp only [cvV, cvWs, cvW, cvS, h1, Option.map_some, Option.some.injEq] at e1
      rw [← e1]
      rfl
    refine ⟨b, b', by rw [hx, hu], h2, ⟨by rw [h4, hcur, List.length_replicate], ⟨by rw [intsV, List.length_map, List.length_replicate], .inr ⟨b', 512, cur', by rw [List.length_replicate], Nat.zero_le _, j4, by rw [List.length_replicate]; omega, by decide, by omega, ?_⟩⟩, j3⟩, k2.below⟩
    rw [List.length_replicate, hcur']
    exact List.take_of_length_le (by rw [intsV, List.length_map, List.length_replicate]; omega)

theorem okTab_new (n : Nat) : okTab (List.replicate n (-1)) := fun x hx => by
  have := (List.mem_replicate.1 hx).2
  omega

set_option maxHeartbeats 4000000 in
set_option maxRecDepth 100000 in
theorem fold_ok (w : World) (A : Option Addr) (cap : Nat) (xs : List Op3) (hA : Acts3 w A xs) (hn : xs.length ≤ 300) :
    Calls Tryz.prog 8 #[.slice A xs.length cap] w fun e w' => ∃ v' t, e = .returned v' ∧ okTab t ∧ t.length = 512 ∧ w'.ownsRow w.heap.size 94 3 v' (runsTo t t.length).length (runV (runsTo t t.length)) ∧ Below w.heap.size w w' := by
  have HA := Aside.mk hA
  have HNEW := Aside.mk (new512_ok w)
  obtain ⟨n, hln⟩ : ∃ n, n = xs.length := ⟨_, rfl⟩
  rw [← hln] at hn
  rw [← hln]
  have HLN := Aside.mk hln
  clear hA hln
  go_enter Tryz.func8, Tryz.ntmps8
  go_wp2_with (go_at_call 41; go_loud (refine HNEW.out.mono ?_; rintro e w1 ⟨m, g, rfl, hm, hf, hb⟩; have HM := Aside.mk hm; have HF := Aside.mk hf; have HB := Aside.mk hb; clear hm hf hb))
  go_loopw [13] (fun v13 wr => ∃ (k : Nat), k ≤ n ∧ v13 = .int .i64 k ∧ Aside (∃ g cap t, Flat wr m 512 g cap t ∧ okTab t ∧ t.length = 512 ∧ Below w.heap.size w wr)) (fun v13 _ => n - (intOf v13).toNat)
  case atStart => exact ⟨0, by omega, rfl, ⟨g, 512, _, HF.out, okTab_new 512, by rw [List.length_replicate], HB.out⟩⟩
  case round =>
    obtain ⟨k, hk, rfl, HR⟩ := hrel
    clear HF HB
    obtain ⟨g1, c1, t, hf, hot, htl, hb⟩ := HR.out
    have HF := Aside.mk hf
    have HOT := Aside.mk hot
    have HTL := Aside.mk htl
    have HB := Aside.mk hb
    clear HR hf hot htl hb
    by_cases hlt : k < n
    · obtain ⟨x, hx⟩ : ∃ x, xs[k]? = some x := ⟨_, List.getElem?_eq_getElem (by rw [← HLN.out]; exact hlt)⟩
      have HXI := Aside.mk (HA.out.1 x (List.mem_of_getElem? hx))
      obtain ⟨b, off, rfl, hb, hcells⟩ := HA.out.2 (by rw [← HLN.out]; omega)
      obtain ⟨hw0, hw1, hw2⟩ := cells_at hcells hb HB.out k x hx
      have HB1 := Aside.mk (HB.out.alloc HB.out.size (.cells #[.int .i64 x.l, .int .i64 x.n, .int .i64 x.p] 92))
      have HF1 := Aside.mk (HF.out.below ((Below.refl wr.heap.size wr).alloc (Nat.le_refl _) (.cells #[.int .i64 x.l, .int .i64 x.n, .int .i64 x.p] 92)))
      have HSET := Aside.mk (fun (l n p : Int) => set_ok _ m 512 g1 c1 t HF1.out HOT.out (by rw [HTL.out]; omega) l n p)
      have hxi1 : -9223372036854775808 ≤ x.l ∧ x.l ≤ 9223372036854775807 := HXI.out.1
      clear hcells hb hx
      go_wp2_with (go_at_call 42; go_loud (refine (HSET.out _ _ _).mono ?_; rintro e w1 ⟨g2, c2, rfl, hmod, hfl⟩; have HB2 := Aside.mk (hmod.below HB1.out HB1.out.size HM.out); have HFL := Aside.mk hfl; clear hmod hfl))
      all_goals first
        | (go_roundw
           case rel => exact ⟨k + 1, by omega, by go_num, ⟨g1, c1, t, HF1.out, HOT.out, HTL.out, HB1.out⟩⟩
           case measure => simp [intOf]; omega)
        | (go_roundw
           case rel => exact ⟨k + 1, by omega, by go_num, ⟨g2, c2, _, HFL.out, flatSet_ok _ _ _ _ HOT.out (by rw [HTL.out]; omega), (flatSet_length _ _ _ _ _).trans HTL.out, HB2.out⟩⟩
           case measure => simp [intOf]; omega)
    · have hkn : k = n := by omega
      subst hkn
      have HRUN := Aside.mk (runs_ok wr m 512 g1 c1 t HF.out HOT.out (by rw [HTL.out]; omega))
      go_wp2_with (go_at_call 43; go_loud (refine HRUN.out.mono ?_; rintro e w1 ⟨v1, rfl, hown, hb1⟩; have HO := Aside.mk hown; have HB1 := Aside.mk hb1; clear hown hb1))
      go_ret
      exact ⟨_, t, rfl, HOT.out, HTL.out, own_base HO.out HB.out.size, HB.out.trans (HB1.out.mono HB.out.size)⟩
end Fi
end Go.Proofs.YtjmhkcfdmcjilaaGreat
set_option linter.unusedVariables false
set_option linter.unusedSimpArgs false
namespace Go.Proofs.YtjmhkcfdmcjilaaGreat
namespace Lo
open Go.RowKit Ai Fi
def newHn (n : Nat) : H := ⟨.node (.none) (.node (.row n (.leaf (.i .i64 (.negSucc 0))) 3 1 false) (.leaf (.none)) (.leaf (.none))) (.node (.row 2 (.node (.i .i64 (.ofNat 512)) (.leaf (.sl 1 0 n n false)) (.leaf (.i .i64 (.ofNat 512)))) 158 2 false) (.leaf (.none)) (.leaf (.none))), 3⟩
def newEnn (n : Nat) : En := ⟨41, [.w (.s (.i .i64 (.ofNat n))), .w (.s (.i .i64 (.ofNat 512)))], ⟨.leaf .none, 0⟩, .t [.s (.p 2 0), .s (.i .i64 (.ofNat 0))], newHn n⟩
def repH : H := ⟨.node (.none) (.node (.row 1 (.leaf (.i .i64 (.negSucc 0))) 3 1 false) (.leaf (.none)) (.leaf (.none))) (.leaf (.none)), 2⟩
def repHn (n : Nat) : H := ⟨.node (.none) (.node (.row 1 (.leaf (.i .i64 (.negSucc 0))) 3 1 false) (.leaf (.none)) (.leaf (.none))) (.node (.row n (.leaf (.i .i64 (.negSucc 0))) 3 1 false) (.leaf (.none)) (.leaf (.none))), 3⟩
def repEn (n : Nat) : En := ⟨86, [.w (.s (.sl 1 0 1 1 false)), .w (.s (.i .i64 (.ofNat n)))], repH, .w (.s (.sl 2 0 n n false)), repHn n⟩
theorem newAll : (List.range 64).all (fun i => partOk Tryz.prog natU 300 (newEnn (i + 1))) = true := by kernel_rfl
theorem repAll : (List.range 64).all (fun i => partOk Tryz.prog natU 300 (repEn (i + 1))) = true := by kernel_rfl
theorem newEnn_ok (n : Nat) (h : 1 ≤ n ∧ n ≤ 64) : EnOk Tryz.prog (newEnn n) := by
  have := List.all_eq_true.1 newAll (n - 1) (by rw [List.mem_range]; omega)
  rw [show n - 1 + 1 = n by omega] at this
  exact part_ok mixed named natU_ok this
theorem repEn_ok (n : Nat) (h : 1 ≤ n ∧ n ≤ 64) : EnOk Tryz.prog (repEn n) := by
  have := List.all_eq_true.1 repAll (n - 1) (by rw [List.mem_range]; omega)
  rw [show n - 1 + 1 = n by omega] at this
  exact part_ok mixed named natU_ok this
end Lo
end Go.Proofs.YtjmhkcfdmcjilaaGreat
set_option linter.unusedVariables false
set_option linter.unusedSimpArgs false
namespace Go.Proofs.YtjmhkcfdmcjilaaGreat
namespace Lo
open Go.RowKit Ai Fi

theorem row_all {n : Nat} {cur : Array Value} {ν : Nu} (hs : cur.size = n) (h : ∀ i, i < n → (Tr.leaf (S.i .i64 (.negSucc 0))).get i = .any ∨ ∃ v, cur[i]? = some v ∧ cvS ν ((Tr.leaf (S.i .i64 (.negSucc 0))).get i) = some v) : cur.toList = intsV (List.replicate n (-1)) := by
  have h2 : ∀ i, i < n → cur[i]? = some (.int .i64 (-1)) := fun i hi => by
    rcases h i hi with e | ⟨v, e1, e2⟩
    · rw [Tr.get_leaf] at e; cases e
    · rw [Tr.get_leaf] at e2
      exact e1.trans (congrArg some (Option.some.inj e2).symm)
  apply List.ext_getElem?
  intro i
  rw [intsV, List.getElem?_map, List.getElem?_replicate]
  by_cases hi : i < n
  · rw [if_pos hi, Array.getElem?_toList]
    exact h2 i hi
  · rw [if_neg hi, List.getElem?_eq_none (by rw [Array.length_toList]; omega)]; rfl

theorem le_max {n : Nat} (h : n ≤ 64) : n ≤ maxLen := by
  have : (64 : Nat) ≤ maxLen := by decide
  omega

theorem newN_ok (w : World) (n : Nat) (hn : 1 ≤ n ∧ n ≤ 64) : Calls Tryz.prog 41 #[.int .i64 n, .int .i64 512] w fun e w' => ∃ m g, e = .returned (.tuple #[.pointer (some ⟨m, 0, none⟩), .int .i64 0]) ∧ w.heap.size ≤ m ∧ Flat w' m 512 g n (List.replicate n (-1)) ∧ Below w.heap.size w w' := by
  have ga : Ga w.heap.size w (fun _ => none) (newEnn n).h w := by
    have hget : ∀ m, (newEnn n).h.get m = .none := fun m => Tr.get_leaf _ _
    refine ⟨Below.refl _ _, Nat.le_refl _, fun _ _ => rfl, fun m hm => ?_, fun m hm => ?_, fun m _ y _ hm _ hy => ?_⟩
    · exact absurd (hget m) hm
    · rw [hget m] at hm; cases hm
    · cases hy
  rcases newEnn_ok n hn w.heap.size w _ w #[.int .i64 n, .int .i64 512] ga rfl with ⟨u', w', h1, _⟩ | ⟨_, h2⟩
  · exfalso
    have h3 : (callFunc 41 #[.int .i64 n, .int .i64 512]).run Tryz.prog w = .ok (.value u') w' := h1
    rw [enter_run Tryz.func41 rfl] at h3
    cases h3
  · refine h2.mono fun x w' ⟨u', hx, ν', _, k2, k3⟩ => ?_
    obtain ⟨b, sl, cur, h1, h2, h3, h4, h5, h6, h7⟩ := k2.row (n := 2) (k := 2) (t := .node (.i .i64 (.ofNat 512)) (.leaf (.sl 1 0 n n false)) (.leaf (.i .i64 (.ofNat 512)))) (e := 158) (z := 2) (o := false) rfl
    obtain ⟨b', sl', cur', j1, j2, j3, j4, j5, j6, j7⟩ := k2.row (n := 1) (k := n) (t := .leaf (.i .i64 (.negSucc 0))) (e := 3) (z := 1) (o := false) rfl
    obtain rfl := h7 rfl
    obtain rfl := j7 rfl
    have hc0 : cur[0]? = some (.int .i64 512) := by
      rcases h5.2 0 (by omega) with e | ⟨v, e1, e2⟩
      · rw [Tr.get_zero] at e; cases e
      · rw [e1, ← Option.some.inj e2]; rfl
    have hc1 : cur[1]? = some (.slice (some ⟨b', 0, none⟩) n n) := by
      rcases h5.2 1 (by omega) with e | ⟨v, e1, e2⟩
      · rw [Tr.get_succ] at e; cases e
      · rw [e1]
        have e3 : cvS ν' (.sl 1 0 n n false) = some v := e2
        have e4 := sl_mk 0 n n false j1
        rw [show cvV ν' (.w (.s (.sl 1 0 n n false))) = some v from e3] at e4
        exact e4
    have hcur : cur = #[.int .i64 512, .slice (some ⟨b', 0, none⟩) n n] := by
      apply Array.ext_getElem?
      intro i
      rcases i with _ | _ | i
      · exact hc0
      · exact hc1
      · rw [Array.getElem?_eq_none (by omega), Array.getElem?_eq_none (by simp)]
    have hcur' := row_all (by omega) j5.2
    have hu : u' = .tuple #[.pointer (some ⟨b, 0, none⟩), .int .i64 0] := by
      have e1 : cvV ν' (.t [.s (.p 2 0), .s (.i .i64 (.ofNat 0))]) = some u' := k3
      simp only [cvV, cvWs, cvW, cvS, h1, Option.map_some, Option.some.injEq] at e1
      rw [← e1]
      rfl
    refine ⟨b, b', by rw [hx, hu], h2, ⟨by rw [h4, hcur, List.length_replicate], ⟨by rw [intsV, List.length_map, List.length_replicate]; omega, .inr ⟨b', n, cur', by rw [List.length_replicate], Nat.zero_le _, j4, by rw [List.length_replicate]; omega, le_max hn.2, by omega, ?_⟩⟩, j3⟩, k2.below⟩
    rw [List.length_replicate, hcur']
    exact List.take_of_length_le (by rw [intsV, List.length_map, List.length_replicate]; omega)

theorem repH_get (m : Nat) : repH.get m = if m = 1 then .row 1 (.leaf (.i .i64 (.negSucc 0))) 3 1 false else .none := by
  rcases m with _ | m
  · rfl
  · show Tr.get _ _ = _
    rw [repH, Tr.get_succ]
    simp only [Tr.left_node, Tr.right_node]
    by_cases h : m = 0
    · subst h; rfl
    · rw [if_neg (by omega)]
      cases hb : Nat.beq (m % 2) 0 with
      | false => exact Tr.get_leaf B.none (m / 2)
      | true =>
        have : m % 2 = 0 := Nat.eq_of_beq_eq_true hb
        obtain ⟨k, hk⟩ : ∃ k, m / 2 = k + 1 := ⟨m / 2 - 1, by omega⟩
        show Tr.get _ (m / 2) = _
        rw [hk, Tr.get_succ]
        simp only [Tr.left_node, Tr.right_node]
        cases Nat.beq (k % 2) 0 <;> exact Tr.get_leaf B.none (k / 2)

def RepPost (w : World) (n : Nat) (e : Ending) (w' : World) : Prop := ∃ g, e = .returned (.slice (some ⟨g, 0, none⟩) n n) ∧ w'.ownsRow w.heap.size 3 1 (.slice (some ⟨g, 0, none⟩) n n) n (intsV (List.replicate n (-1))) ∧ Below w.heap.size w w'

theorem repN_ok (w : World) (n : Nat) (hn : 1 ≤ n ∧ n ≤ 64) : Calls Tryz.prog 86 #[.slice (some ⟨w.heap.size, 0, none⟩) 1 1, .int .i64 n] (w.alloc (.cells #[.int .i64 (-1)] 3)) (RepPost w n) := by
  have hB := (Below.refl w.heap.size w).alloc (Nat.le_refl _) (.cells #[.int .i64 (-1)] 3)
  have hO := heap_alloc_new w (.cells #[.int .i64 (-1)] 3)
  obtain ⟨W, hW⟩ : ∃ W, W = w.alloc (.cells #[.int .i64 (-1)] 3) := ⟨_, rfl⟩
  rw [← hW] at hB hO ⊢
  clear hW
  have ga : Ga w.heap.size w (fun m => if m = 1 then some (w.heap.size, 0) else none) (repEn n).h W := by
    refine ⟨hB, hB.size, fun m hm => ?_, fun m hm => ?_, fun m hm => ?_, fun m m' y y' hm hm' _ _ _ => ?_⟩
    · have hm' : repH.get m = .none := hm
      rw [repH_get] at hm'
      split at hm'
      · cases hm'
      · rename_i h; simp [h]
    · have hm' : repH.get m ≠ .none := hm
      rw [repH_get] at hm'
      split at hm'
      · rename_i h; subst h; decide
      · exact absurd rfl hm'
    · have hm' : live (repH.get m) = true := hm
      show ∃ y, _ ∧ _ ∧ ObR _ (repH.get m) _ _
      rw [repH_get] at hm' ⊢
      split at hm'
      · rename_i h
        subst h
        refine ⟨(w.heap.size, 0), rfl, Nat.le_refl _, ?_⟩
        rw [if_pos rfl]
        refine ⟨_, hO, ⟨by decide, fun i hi => .inr ⟨.int .i64 (-1), ?_, ?_⟩⟩, rfl, fun _ => rfl⟩
        · obtain rfl : i = 0 := by omega
          rfl
        · rw [Tr.get_leaf]; rfl
      · cases hm'
    · have h1 : live (repH.get m) = true := hm
      have h2 : live (repH.get m') = true := hm'
      rw [repH_get] at h1 h2
      split at h1
      · split at h2
        · omega
        · cases h2
      · cases h1
  rcases repEn_ok n hn w.heap.size w _ W #[.slice (some ⟨w.heap.size, 0, none⟩) 1 1, .int .i64 n] ga rfl with ⟨u', w', h1, _⟩ | ⟨_, h2⟩
  · exfalso
    have h3 : (callFunc 86 #[.slice (some ⟨w.heap.size, 0, none⟩) 1 1, .int .i64 n]).run Tryz.prog W = .ok (.value u') w' := h1
    rw [enter_run Tryz.func86 rfl] at h3
    cases h3
  · refine h2.mono fun x w' ⟨u', hx, ν', _, k2, k3⟩ => ?_
    obtain ⟨b', sl', cur', j1, j2, j3, j4, j5, j6, j7⟩ := k2.row (n := 2) (k := n) (t := .leaf (.i .i64 (.negSucc 0))) (e := 3) (z := 1) (o := false) rfl
    obtain rfl := j7 rfl
    have hcur' := row_all (by omega) j5.2
    have hu : u' = .slice (some ⟨b', 0, none⟩) n n := by
      have e1 : cvV ν' (.w (.s (.sl 2 0 n n false))) = some u' := k3
      have e4 := sl_mk 0 n n false j1
      rw [e1] at e4
      exact Option.some.inj e4
    refine ⟨b', by rw [hx, hu], ⟨by rw [intsV, List.length_map, List.length_replicate]; omega, .inr ⟨b', n, cur', rfl, j2, j4, Nat.le_refl _, ?_, by omega, ?_⟩⟩, k2.below⟩
    · have : (64 : Nat) ≤ maxLen := by decide
      omega
    · rw [hcur']
      exact List.take_of_length_le (by rw [intsV, List.length_map, List.length_replicate]; omega)
end Lo
end Go.Proofs.YtjmhkcfdmcjilaaGreat
