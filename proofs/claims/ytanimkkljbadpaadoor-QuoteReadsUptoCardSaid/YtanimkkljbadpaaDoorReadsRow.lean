/- QuoteReads: the row, the card. -/
import Derived.Test.YtanimkkljbadpaaDoorKit
import Derived.Test.YtanimkkljbadpaaDoorW14
set_option linter.unusedVariables false
namespace Go.Proofs.YtanimkkljbadpaaDoor.quoteReads
open Go.ChangeShapes Go.WideShapes Go.ChangeAt Go.RowKit Go.Lib
open Go.ChangeMaps (open_string shut_string)

theorem witness_row (os : Os) {H : Type} (enc : TypeId × Value → H) :
    (Rows.OpenSpec.upto Rows.quoteReadsSpec).preRow enc Tryd.prog Tryd.f5 Rows.quoteReadsUptoRow.domain false LAID ((laidWorld os).forCall (fun _ _ => 0) ⟨#[], #[.string ⟨#[]⟩, .bool false, .int .i64 0, .string ⟨#[]⟩], []⟩).memory #[.string ⟨#[]⟩, .bool false, .int .i64 0, .string ⟨#[]⟩] := by
  have hw : (DataW.whole enc Tryd.prog ((laidWorld os).forCall (fun _ _ => 0) ⟨#[], #[.string ⟨#[]⟩, .bool false, .int .i64 0, .string ⟨#[]⟩], []⟩).memory Tryd.f5.params.toList (Rows.OpenSpec.upto Rows.quoteReadsSpec).vars false (#[.string ⟨#[]⟩, .bool false, .int .i64 0, .string ⟨#[]⟩] : Array Value).toList 8).map (fun x => (x.1, x.2.1)) =
      some ([.lit (.string []), .lit (.bool false), .lit (.int .i64 0), .lit (.string [])], []) := by kernel_rfl
  obtain ⟨⟨x1, x2, x3⟩, hx, hx1⟩ := Option.map_eq_some_iff.1 hw
  simp only [Prod.mk.injEq] at hx1
  obtain ⟨rfl, rfl⟩ := hx1
  exact OpenSpec.preRow_of_cond 8 hx (by kernel_rfl) (fun k hk => by cases hk; rfl) (by kernel_rfl) (laid_met os _)

set_option maxRecDepth 100000 in
theorem lifted (os : Os) (started : os.Started) (H : Type) (enc : TypeId × Value → H) (F : Stop.Interp) :
    ReturnsInHanded {} Tryd.checked os 5 .any ((Rows.OpenSpec.upto Rows.quoteReadsSpec).preRow enc Tryd.prog Tryd.f5 Rows.quoteReadsUptoRow.domain false LAID) (((Rows.OpenSpec.upto Rows.quoteReadsSpec).at F).post enc Tryd.prog Tryd.f5 false true false false) := by
  refine returnsInHanded_of_row (C := Tryd.checked) (s := Rows.OpenSpec.upto Rows.quoteReadsSpec) own started (by kernel_rfl) Tryd.func5
    (witness_row_atRef (enc := enc) (C := Tryd.checked) false (laidWorld os) #[.string ⟨#[]⟩, .bool false, .int .i64 0, .string ⟨#[]⟩] rfl (by kernel_rfl) (by kernel_rfl) (by kernel_rfl) (witness_row os enc)) ?_
  intro W base args ds gs before hval0 hW _ hsz hwt hL _ _
  have hval : ∀ (j : Nat) t v, Tryd.f5.params[j]? = some t → args[j]? = some v → Value.okWide Tryd.prog W .any base t v := hval0
  have hW' := hW
  obtain ⟨p, q, hA0, hV0, rfl, _, _⟩ := hW
  have hA : DataW.TrodAll enc Tryd.prog W 0 (fun _ => true) true Tryd.f5.params.toList args.toList ds p := hA0
  rw [Tryd.params5] at hA hval
  obtain ⟨v0, vs0, d0, ds0, p0, q0, hargs, rfl, rfl, h0, r0⟩ := trodAll_cons hA
  obtain ⟨v1, vs1, d1, ds1, p1, q1, rfl, rfl, rfl, h1, r1⟩ := trodAll_cons r0
  obtain ⟨v2, vs2, d2, ds2, p2, q2, rfl, rfl, rfl, h2, r2⟩ := trodAll_cons r1
  obtain ⟨v3, vs3, d3, ds3, p3, q3, rfl, rfl, rfl, h3, r3⟩ := trodAll_cons r2
  obtain ⟨rfl, rfl, rfl⟩ := trodAll_nil r3
  obtain rfl : args = #[v0, v1, v2, v3] := by cases args; simp_all
  obtain ⟨rfl, rfl⟩ := trodVars_none hV0
  obtain ⟨a0, rfl, rfl, rfl, wa0⟩ := open_string Tryd.underlying9 (hval 0 9 v0 rfl rfl) h0
  obtain ⟨a1, rfl, rfl, rfl⟩ := open_bool Tryd.underlying4 (hval 1 4 v1 rfl rfl) h1
  obtain ⟨a2, rfl, rfl, rfl, wa2⟩ := open_int Tryd.underlying3 (hval 2 3 v2 rfl rfl) h2
  obtain ⟨a3, rfl, rfl, rfl, wa3⟩ := open_string Tryd.underlying9 (hval 3 9 v3 rfl rfl) h3
  have sz0 : a0.size ≤ 140737488351232 := by
    have h := sized_string hwt (j := 0) (t := 9) (by kernel_rfl) rfl
    rw [Array.length_toList] at h
    exact h
  have bd2 := Go.bounds_i64 wa2
  have sz3 : a3.size ≤ 140737488351232 := by
    have h := sized_string hwt (j := 3) (t := 9) (by kernel_rfl) rfl
    rw [Array.length_toList] at h
    exact h
  have hbk := hsz _ rfl
  have bulk_ : Rows.uptoBulkAll (H := H) ([.lit (.string a0.data.toList), .lit (.bool a1), .lit (.int .i64 a2), .lit (.string a3.data.toList)] ++ []) ≤ 1048576 := of_decide_eq_true hbk
  simp only [Rows.uptoBulkAll, Rows.uptoBulk, List.cons_append, List.nil_append, Array.length_toList] at bulk_
  have hds : ∀ b : ByteArray, b.data.size = b.size := fun _ => rfl
  simp only [hds] at bulk_
  clear hA0 hV0 hval0
  refine (reads_ok a0 a3 a1 a2 W (tabs_of_laid hL) (by omega) (by omega) (by omega) (by omega)).mono ?_
  rintro e W' ⟨rfl, bel⟩
  have e1 : ((Rows.OpenSpec.upto Rows.quoteReadsSpec).at F).fn H ([.lit (.string a0.data.toList), .lit (.bool a1), .lit (.int .i64 a2), .lit (.string a3.data.toList)] ++ []) = { results := [.lit (.bool true)], args := [.lit (.string a0.data.toList), .lit (.bool a1), .lit (.int .i64 a2), .lit (.string a3.data.toList)] } := rfl
  refine ⟨_, rfl, _, _, _, [], [], [], hW', ?_, ?_, ?_, bel.frame _, fun h => by cases h⟩
  · rw [e1]; exact trodAll_mk1 (shut_bool Tryd.underlying4 _)
  · rw [e1]; exact trodAll_cons_mk (shut_string Tryd.underlying9 wa0) (trodAll_cons_mk (shut_bool Tryd.underlying4 a1) (trodAll_cons_mk (shut_int Tryd.underlying3 wa2) (trodAll_cons_mk (shut_string Tryd.underlying9 wa3) trodAll_mk0)))
  · rw [e1]; rfl

theorem row_holds : Rows.QuoteReadsUptoSaid :=
  OpenClaim.holds_of_cond 5 Tryd.f5 rfl rfl rfl rfl rfl rfl rfl ⟨rfl, rfl, rfl, rfl, rfl⟩ rfl rfl rfl rfl rfl (by kernel_rfl) Tryd.func5 (by kernel_rfl)
    (of_decide_eq_true (by kernel_rfl)) (by unfold Func.isWrapper; first | (rw [if_pos (by decide +kernel)]; kernel_rfl) | (rw [if_neg (by decide +kernel)]; exact ⟨rfl, rfl⟩))
    (fun os started H enc _ F0 => by rw [OpenClaim.pre_eq_preRow]; exact lifted os started H enc F0)

theorem card_holds : Rows.QuoteReadsUptoCardSaid :=
  Claim7.holds_tied_plain_at .later [] [.data, .pinned] true (true, "1df20ea514db8619f376a6fe51d5c1884e229ceaa2917be26e46b11d15413db9") false
    row_holds (fun _ h => by cases h) (by kernel_rfl) (fun _ h => by cases h) quoteReadsUpto_row_tie rfl ⟨rfl, rfl⟩ (by kernel_rfl) rfl
    (fun f fn hf hfn => by
      obtain rfl : f = 5 := Option.some.inj ((show Tryd.prog.funcNamed "ferrule/ferrulelaw5.QuoteReads" = some 5 by kernel_rfl).symm.trans hf) |>.symm
      obtain rfl : fn = Tryd.f5 := (Option.some.inj (Tryd.func5.symm.trans hfn)).symm
      exact ⟨by kernel_rfl, fun j t ht => by
        rw [Tryd.params5] at ht
        have hm : t ∈ [9, 4, 3, 9] := by simpa using Array.mem_of_getElem? ht
        have hall : ([9, 4, 3, 9].all fun u => !Tryd.prog.wantsStandIn u) = true := by kernel_rfl
        exact (show Tryd.prog.wantsStandIn t = false by simpa using List.all_eq_true.1 hall t hm)⟩)
    (by kernel_rfl)
end Go.Proofs.YtanimkkljbadpaaDoor.quoteReads
namespace Go.Proofs.YtanimkkljbadpaaDoor
/-- The card, under a short name, for the claim. -/
theorem quoteReads_card : Rows.QuoteReadsUptoCardSaid := quoteReads.card_holds
end Go.Proofs.YtanimkkljbadpaaDoor
