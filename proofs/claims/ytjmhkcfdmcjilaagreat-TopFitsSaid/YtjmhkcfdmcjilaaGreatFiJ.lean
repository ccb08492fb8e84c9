/-
  Walks: flat.New of the greatest map, span.Fold.
-/
import Derived.Test.YtjmhkcfdmcjilaaGreatFiI
set_option linter.unusedVariables false
set_option linter.unusedSimpArgs false
namespace Go.Proofs.YtjmhkcfdmcjilaaGreat
namespace Fi
open Go.RowKit Ai

def newH : H := ⟨.node (.none) (.node (.row 512 (.leaf (.i .i64 (.negSucc 0))) 3 1 false) (.leaf (.none)) (.leaf (.none))) (.node (.row 2 (.node (.i .i64 (.ofNat 512)) (.leaf (.sl 1 0 512 512 false)) (.leaf (.i .i64 (.ofNat 512)))) 158 2 false) (.leaf (.none)) (.leaf (.none))), 3⟩
def newEn : En := ⟨41, [.w (.s (.i .i64 (.ofNat 512))), .w (.s (.i .i64 (.ofNat 512)))], ⟨.leaf .none, 0⟩, .t [.s (.p 2 0), .s (.i .i64 (.ofNat 0))], newH⟩
theorem newEn_part : partOk Tryz.prog natU 300 newEn = true := by kernel_rfl
theorem newEn_ok : EnOk Tryz.prog newEn := part_ok mixed named natU_ok newEn_part

theorem new512_ok (w : World) : Calls Tryz.prog 41 #[.int .i64 512, .int .i64 512] w fun e w' => ∃ m g, e = .returned (.tuple #[.pointer (some ⟨m, 0, none⟩), .int .i64 0]) ∧ w.heap.size ≤ m ∧ Flat w' m 512 g 512 (List.replicate 512 (-1)) ∧ Below w.heap.size w w' := by
  have ga : Ga w.heap.size w (fun _ => none) newEn.h w := by
    have hget : ∀ m, newEn.h.get m = .none := fun m => Tr.get_leaf _ _
    refine ⟨Below.refl _ _, Nat.le_refl _, fun _ _ => rfl, fun m hm => ?_, fun m hm => ?_, fun m _ y _ hm _ hy => ?_⟩
    · exact absurd (hget m) hm
    · rw [hget m] at hm; cases hm
    · cases hy
  rcases newEn_ok w.heap.size w _ w #[.int .i64 512, .int .i64 512] ga rfl with ⟨u', w', h1, _⟩ | ⟨_, h2⟩
  · exfalso
    have h3 : (callFunc 41 #[.int .i64 512, .int .i64 512]).run Tryz.prog w = .ok (.value u') w' := h1
    rw [enter_run Tryz.func41 rfl] at h3
    cases h3
  · refine h2.mono fun x w' ⟨u', hx, ν', _, k2, k3⟩ => ?_
    obtain ⟨b, sl, cur, h1, h2, h3, h4, h5, h6, h7⟩ := k2.row (n := 2) (k := 2) (t := .node (.i .i64 (.ofNat 512)) (.leaf (.sl 1 0 512 512 false)) (.leaf (.i .i64 (.ofNat 512)))) (e := 158) (z := 2) (o := false) rfl
    obtain ⟨b', sl', cur', j1, j2, j3, j4, j5, j6, j7⟩ := k2.row (n := 1) (k := 512) (t := .leaf (.i .i64 (.negSucc 0))) (e := 3) (z := 1) (o := false) rfl
    obtain rfl := h7 rfl
    obtain rfl := j7 rfl
    have hc0 : cur[0]? = some (.int .i64 512) := by
      rcases h5.2 0 (by omega) with e | ⟨v, e1, e2⟩
      · rw [Tr.get_zero] at e; cases e
      · rw [e1, ← Option.some.inj e2]; rfl
    have hc1 : cur[1]? = some (.slice (some ⟨b', 0, none⟩) 512 512) := by
      rcases h5.2 1 (by omega) with e | ⟨v, e1, e2⟩
      · rw [Tr.get_succ] at e; cases e
      · rw [e1]
        have e3 : cvS ν' (.sl 1 0 512 512 false) = some v := e2
        have e4 := sl_mk 0 512 512 false j1
        rw [show cvV ν' (.w (.s (.sl 1 0 512 512 false))) = some v from e3] at e4
        exact e4
    have hcur : cur = #[.int .i64 512, .slice (some ⟨b', 0, none⟩) 512 512] := by
      apply Array.ext_getElem?
      intro i
      rcases i with _ | _ | i
      · exact hc0
      · exact hc1
      · rw [Array.getElem?_eq_none (by omega), Array.getElem?_eq_none (by simp)]
    have hcur2 : ∀ i, i < 512 → cur'[i]? = some (.int .i64 (-1)) := fun i hi => by
      rcases j5.2 i hi with e | ⟨v, e1, e2⟩
      · rw [Tr.get_leaf] at e; cases e
      · rw [Tr.get_leaf] at e2
        exact e1.trans (congrArg some (Option.some.inj e2).symm)
    have hcur' : cur'.toList = intsV (List.replicate 512 (-1)) := by
      apply List.ext_getElem?
      intro i
      rw [intsV, List.getElem?_map, List.getElem?_replicate]
      by_cases hi : i < 512
      · rw [if_pos hi, Array.getElem?_toList]
        exact hcur2 i hi
      · rw [if_neg hi, List.getElem?_eq_none (by rw [Array.length_toList]; omega)]; rfl
    have hu : u' = .tuple #[.pointer (some ⟨b, 0, none⟩), .int .i64 0] := by
      have e1 : cvV ν' (.t [.s (.p 2 0), .s (.i .i64 (.ofNat 0))]) = some u' := k3
      simp only [cvV, cvWs, cvW, cvS, h1, Option.map_some, Option.some.injEq] at e1
      rw [← e1]
      rfl
    refine ⟨b, b', by rw [hx, hu], h2, ⟨by rw [h4, hcur, List.length_replicate], ⟨by rw [intsV, List.length_map, List.length_replicate], .inr ⟨b', 512, cur', by rw [List.length_replicate], Nat.zero_le _, j4, by rw [List.length_replicate]; omega, by decide, by omega, ?_⟩⟩, j3⟩, k2.below⟩
    rw [List.length_replicate, hcur']
    exact List.take_of_length_le (by rw [intsV, List.length_map, List.length_replicate]; omega)

theorem okTab_new (n : Nat) : okTab (List.replicate n (-1)) := fun x hx => by
  have := (List.mem_replicate.1 hx).2
  omega

set_option maxHeartbeats 4000000 in
set_option maxRecDepth 100000 in
theorem fold_ok (w : World) (A : Option Addr) (cap : Nat) (xs : List Op3) (hA : Acts3 w A xs) (hn : xs.length ≤ 300) :
    Calls Tryz.prog 8 #[.slice A xs.length cap] w fun e w' => ∃ v' t, e = .returned v' ∧ okTab t ∧ t.length = 512 ∧ w'.ownsRow w.heap.size 94 3 v' (runsTo t t.length).length (runV (runsTo t t.length)) ∧ Below w.heap.size w w' := by
  have HA := Aside.mk hA
  have HNEW := Aside.mk (new512_ok w)
  obtain ⟨n, hln⟩ : ∃ n, n = xs.length := ⟨_, rfl⟩
  rw [← hln] at hn
  rw [← hln]
  have HLN := Aside.mk hln
  clear hA hln
  go_enter Tryz.func8, Tryz.ntmps8
  go_wp2_with (go_at_call 41; go_loud (refine HNEW.out.mono ?_; rintro e w1 ⟨m, g, rfl, hm, hf, hb⟩; have HM := Aside.mk hm; have HF := Aside.mk hf; have HB := Aside.mk hb; clear hm hf hb))
  go_loopw [13] (fun v13 wr => ∃ (k : Nat), k ≤ n ∧ v13 = .int .i64 k ∧ Aside (∃ g cap t, Flat wr m 512 g cap t ∧ okTab t ∧ t.length = 512 ∧ Below w.heap.size w wr)) (fun v13 _ => n - (intOf v13).toNat)
  case atStart => exact ⟨0, by omega, rfl, ⟨g, 512, _, HF.out, okTab_new 512, by rw [List.length_replicate], HB.out⟩⟩
  case round =>
    obtain ⟨k, hk, rfl, HR⟩ := hrel
    clear HF HB
    obtain ⟨g1, c1, t, hf, hot, htl, hb⟩ := HR.out
    have HF := Aside.mk hf
    have HOT := Aside.mk hot
    have HTL := Aside.mk htl
    have HB := Aside.mk hb
    clear HR hf hot htl hb
    by_cases hlt : k < n
    · obtain ⟨x, hx⟩ : ∃ x, xs[k]? = some x := ⟨_, List.getElem?_eq_getElem (by rw [← HLN.out]; exact hlt)⟩
      have HXI := Aside.mk (HA.out.1 x (List.mem_of_getElem? hx))
      obtain ⟨b, off, rfl, hb, hcells⟩ := HA.out.2 (by rw [← HLN.out]; omega)
      obtain ⟨hw0, hw1, hw2⟩ := cells_at hcells hb HB.out k x hx
      have HB1 := Aside.mk (HB.out.alloc HB.out.size (.cells #[.int .i64 x.l, .int .i64 x.n, .int .i64 x.p] 92))
      have HF1 := Aside.mk (HF.out.below ((Below.refl wr.heap.size wr).alloc (Nat.le_refl _) (.cells #[.int .i64 x.l, .int .i64 x.n, .int .i64 x.p] 92)))
      have HSET := Aside.mk (fun (l n p : Int) => set_ok _ m 512 g1 c1 t HF1.out HOT.out (by rw [HTL.out]; omega) l n p)
      have hxi1 : -9223372036854775808 ≤ x.l ∧ x.l ≤ 9223372036854775807 := HXI.out.1
      clear hcells hb hx
      go_wp2_with (go_at_call 42; go_loud (refine (HSET.out _ _ _).mono ?_; rintro e w1 ⟨g2, c2, rfl, hmod, hfl⟩; have HB2 := Aside.mk (hmod.below HB1.out HB1.out.size HM.out); have HFL := Aside.mk hfl; clear hmod hfl))
      all_goals first
        | (go_roundw
           case rel => exact ⟨k + 1, by omega, by go_num, ⟨g1, c1, t, HF1.out, HOT.out, HTL.out, HB1.out⟩⟩
           case measure => simp [intOf]; omega)
        | (go_roundw
           case rel => exact ⟨k + 1, by omega, by go_num, ⟨g2, c2, _, HFL.out, flatSet_ok _ _ _ _ HOT.out (by rw [HTL.out]; omega), (flatSet_length _ _ _ _ _).trans HTL.out, HB2.out⟩⟩
           case measure => simp [intOf]; omega)
    · have hkn : k = n := by omega
      subst hkn
      have HRUN := Aside.mk (runs_ok wr m 512 g1 c1 t HF.out HOT.out (by rw [HTL.out]; omega))
      go_wp2_with (go_at_call 43; go_loud (refine HRUN.out.mono ?_; rintro e w1 ⟨v1, rfl, hown, hb1⟩; have HO := Aside.mk hown; have HB1 := Aside.mk hb1; clear hown hb1))
      go_ret
      exact ⟨_, t, rfl, HOT.out, HTL.out, own_base HO.out HB.out.size, HB.out.trans (HB1.out.mono HB.out.size)⟩
end Fi
end Go.Proofs.YtjmhkcfdmcjilaaGreat
