/- TopLogged: changes that are laid into a record, cut into pages, laid into bytes, read, joined and applied make of either map what they make at once. Bounds: none but the statement's own guards. -/
import Derived.Test.YtjmhkcfdmcjilaaGreatRows
import Derived.WalkKit
import Derived.ProofKit
import Derived.OpenShut
import Derived.ChangeOld
import Derived.Below
import Derived.SizedLaws
import Derived.Deep.SlicePairs
import Derived.Test.YtjmhkcfdmcjilaaGreatLqK
/- Slices of three ints an element, that came in: opened. -/
set_option linter.unusedVariables false
set_option linter.unusedSimpArgs false
namespace Go.Proofs.YtjmhkcfdmcjilaaGreat
namespace Lo
open Go.ChangeShapes Go.WideShapes Go.ChangeAt Go.RowKit Go.Deep Fi

theorem wf_inI {n : Int} (h : (Lit.int .i64 n).wf = true) : inI n := by
  have := bounds_i64 h
  unfold inI; omega

section
variable {H : Type} {enc : TypeId × Value → H} {P : Program} {w : World} {base : Nat} {spare : Nat → Bool} {held : Bool}

theorem open_acts3 {t e ti : TypeId} {f0 f1 f2 : Field} {A : Option Addr} {len cap : Nat} {d : DataW H} {ps : List MemPlace} (ht : P.underlying t = some (.slice e)) (he : P.underlying e = some (.struct #[f0, f1, f2]))
    (hi : P.underlying ti = some (.int .i64)) (ce : P.cellsOf e = 3) (o0 : f0.offset = 0) (o1 : f1.offset = 1) (o2 : f2.offset = 2) (t0 : f0.type = ti) (t1 : f1.type = ti) (t2 : f2.type = ti) (ci : P.cellsOf ti = 1)
    (h : DataW.Trod enc P w base spare held t (.slice A len cap) d ps) : ∃ xs : List Op3, len = xs.length ∧ Acts3 w A xs := by
  obtain ⟨fuel, hf⟩ := h
  rcases open_slice ht hf with ⟨hcs, _⟩ | ⟨a, l', c', m, n, D, Pl, hcs, hb, hl, hm, hmm, hx, hi'⟩
  · simp [Value.cells] at hcs
    obtain ⟨rfl, rfl, rfl⟩ := hcs
    exact ⟨[], rfl, ⟨(fun x hx => by cases hx), (fun h => absurd h (Nat.lt_irrefl 0))⟩⟩
  · simp [Value.cells] at hcs
    obtain ⟨rfl, rfl, rfl⟩ := hcs
    have hlm : len ≤ m := by rw [hmm]; split <;> omega
    have each : ∀ i, i < len → ∃ x : Op3, (inI x.l ∧ inI x.n ∧ inI x.p) ∧ w.cell? (a.add (i * 3)) = some (.int .i64 x.l) ∧ w.cell? (a.add (i * 3 + 1)) = some (.int .i64 x.n) ∧ w.cell? (a.add (i * 3 + 2)) = some (.int .i64 x.p) := by
      intro i hlt
      obtain ⟨cs', h1, h2⟩ := hi' i (by omega)
      rw [ce] at h1
      obtain ⟨_, hlen, hcell⟩ := World.cells?_some h1
      obtain ⟨xs, k, hk, hxy, _, hxl, hff⟩ := DataW.trod_struct he h2
      match xs, hxl, cs', hlen with
      | [y0, y1, y2], _, [v0, v1, v2], _ =>
        have g0 := hff 0 f0 rfl
        have g1 := hff 1 f1 rfl
        have g2 := hff 2 f2 rfl
        simp [o0, o1, o2, t0, t1, t2, ci] at g0 g1 g2
        have e0 := hcell 0 (by omega)
        have e1 := hcell 1 (by omega)
        have e2 := hcell 2 (by omega)
        rw [Go.Deep.add_add] at e0 e1 e2
        obtain ⟨x, q0, -, wx⟩ := DataW.trod_int hi g0
        obtain ⟨y, q1, -, wy⟩ := DataW.trod_int hi g1
        obtain ⟨z, q2, -, wz⟩ := DataW.trod_int hi g2
        simp at q0 q1 q2
        subst q0 q1 q2
        exact ⟨⟨x, y, z⟩, ⟨wf_inI wx, wf_inI wy, wf_inI wz⟩, by simpa using e0, by simpa using e1, by simpa using e2⟩
    haveI : Inhabited Op3 := ⟨⟨0, 0, 0⟩⟩
    obtain ⟨q, hq⟩ := Go.Deep.choose_lt each
    refine ⟨(List.range len).map q, by simp, ⟨fun x hx => ?_, fun h => ?_⟩⟩
    · obtain ⟨i, hi1, rfl⟩ := List.mem_map.1 hx
      exact (hq i (List.mem_range.1 hi1)).1
    · simp at h
      have h0 := (hq 0 h).2.1
      obtain ⟨hp, hlt⟩ : a.spot = none ∧ a.block < w.heap.size := by
        have hbl := World.block_lt_of_cell? w _ h0
        have e : a.add (0 * 3) = a := by simp [Addr.add]
        rw [e] at h0 hbl
        refine ⟨?_, hbl⟩
        unfold World.cell? at h0
        cases hs : a.spot with
        | none => rfl
        | some s => rw [hs] at h0; simp at h0; split at h0 <;> simp at h0
      obtain ⟨b, off, sp⟩ := a
      simp at hp hlt
      subst hp
      refine ⟨b, off, rfl, hlt, fun i x hx => ?_⟩
      simp at hx
      obtain ⟨j, hj, hx⟩ := hx
      obtain ⟨hjl, rfl⟩ := List.getElem?_eq_some_iff.1 hj
      simp at hjl hj
      simp at hx
      have k := hq i hjl
      rw [hx] at k
      have ea : ∀ k, (⟨b, off, none⟩ : Addr).add k = ⟨b, off + k, none⟩ := fun k => by unfold Addr.add; split <;> simp_all
      obtain ⟨_, k0, k1, k2⟩ := k
      rw [ea] at k0 k1 k2
      exact ⟨k0, by rw [Nat.add_assoc]; exact k1, by rw [Nat.add_assoc]; exact k2⟩

end
end Lo
end Go.Proofs.YtjmhkcfdmcjilaaGreat
namespace Go.Proofs.YtjmhkcfdmcjilaaGreat.topLogged
open Go.ChangeShapes Go.WideShapes Go.ChangeAt Go.RowKit Fi Lo
set_option linter.unusedVariables false
theorem own : ownKnob Tryz.prog.godebug = none := by kernel_rfl
theorem laidOut : laidOutB Tryz.prog = true := by kernel_rfl
theorem cells3 : Tryz.prog.cellsOf 3 = 1 := by kernel_rfl
theorem cells42 : Tryz.prog.cellsOf 42 = 3 := by kernel_rfl

set_option maxRecDepth 100000 in
theorem lifted (os : Os) (started : os.Started) (H : Type) (enc : TypeId × Value → H) :
    ReturnsInHanded {} Tryz.checked os 4 .any (Rows.topLoggedSpec.pre6 enc Tryz.prog Tryz.f4 Rows.topLoggedRow.domain false) (Rows.topLoggedSpec.post enc Tryz.prog Tryz.f4 false true false false) := by
  refine returnsInHanded_of_change_sized (C := Tryz.checked) own started (by kernel_rfl) Tryz.func4
    (ChangeSpec.witness6 (enc := enc) (C := Tryz.checked) false ⟨#[], #[.int .i64 0, .slice none 0 0, .bool false], []⟩ 8 (by kernel_rfl) (by kernel_rfl) (by kernel_rfl) (by kernel_rfl)) ?_
  intro W base args ds gs before hval0 hW hcnd hsz0 _
  have hval : ∀ (j : Nat) t v, Tryz.f4.params[j]? = some t → args[j]? = some v → Value.okWide Tryz.prog W .any base t v := hval0
  have hW' := hW
  obtain ⟨p, q, hA0, hV, rfl, hfz, hnd⟩ := hW
  have hA : DataW.TrodAll enc Tryz.prog W 0 (fun _ => true) true Tryz.f4.params.toList args.toList ds p := hA0
  rw [Tryz.params4] at hA hval
  obtain ⟨v0, vs0, d0, ds0, p0, q0, hargs, rfl, rfl, h0, r0⟩ := trodAll_cons hA
  obtain ⟨v1, vs1, d1, ds1, p1, q1, rfl, rfl, rfl, h1, r1⟩ := trodAll_cons r0
  obtain ⟨v2, vs2, d2, ds2, p2, q2, rfl, rfl, rfl, h2, r2⟩ := trodAll_cons r1
  obtain ⟨rfl, rfl, rfl⟩ := trodAll_nil r2
  obtain rfl : args = #[v0, v1, v2] := by cases args; simp_all
  obtain ⟨rfl, rfl⟩ := trodVars_none hV
  have k0 := h0
  have k1 := h1
  have k2 := h2
  have lt0 : ∀ x ∈ p0, x.block < W.heap.size := by obtain ⟨m, hm⟩ := k0; exact DataW.trod_lt m _ _ _ hm
  have lt1 : ∀ x ∈ p1, x.block < W.heap.size := by obtain ⟨m, hm⟩ := k1; exact DataW.trod_lt m _ _ _ hm
  have lt2 : ∀ x ∈ p2, x.block < W.heap.size := by obtain ⟨m, hm⟩ := k2; exact DataW.trod_lt m _ _ _ hm
  obtain ⟨N, rfl⟩ := okWide_int Tryz.underlying3 (hval 0 3 v0 rfl rfl)
  obtain ⟨A, len, cap, rfl⟩ := okWide_slice Tryz.underlying25 (hval 1 25 v1 rfl rfl)
  obtain ⟨isF, rfl⟩ := okWide_bool Tryz.underlying4 (hval 2 4 v2 rfl rfl)
  obtain ⟨xs, rfl, hxs⟩ := Lo.open_acts3 Tryz.underlying25 Tryz.underlying42 Tryz.underlying3 cells42 rfl rfl rfl rfl rfl rfl cells3 h1
  clear hA0 hval0 hsz0
  have hcalls : Calls Tryz.prog 4 #[.int .i64 N, .slice A xs.length cap, .bool isF] W (Lo.LoggedPost W) := by
    by_cases hin : 1 ≤ N ∧ N ≤ 64 ∧ xs.length ≤ 40
    · obtain ⟨N', rfl⟩ := Int.eq_ofNat_of_zero_le (show 0 ≤ N by omega)
      exact Lo.logged_in W N' isF A cap xs hxs (by omega) hin.2.2
    · exact Lo.logged_out W N isF A xs.length cap (by omega)
  refine hcalls.mono fun e W' ⟨he, bel⟩ => ?_
  subst he
  exact ⟨_, rfl, _, _, _, [], _, [], hW', trodAll_cons_mk (shut_bool Tryz.underlying4 _) trodAll_mk0,
    trodAll_cons_mk (Below.trod laidOut (by kernel_rfl) (of_decide_eq_true (by kernel_rfl)) k0 bel lt0) (trodAll_cons_mk (Below.trod laidOut (by kernel_rfl) (of_decide_eq_true (by kernel_rfl)) k1 bel lt1) (trodAll_cons_mk (Below.trod laidOut (by kernel_rfl) (of_decide_eq_true (by kernel_rfl)) k2 bel lt2) trodAll_mk0)),
    rfl, bel.frame _, fun h => by cases h⟩

theorem proved : Rows.TopLoggedSaid :=
  OpenClaim.holds_of_wide 4 Tryz.f4 rfl rfl rfl rfl rfl rfl rfl ⟨rfl, rfl, rfl, rfl, rfl⟩ rfl rfl rfl rfl rfl (by kernel_rfl) Tryz.func4 (by kernel_rfl)
    (of_decide_eq_true (by kernel_rfl)) (by unfold Func.isWrapper; first | (rw [if_pos (by decide +kernel)]; kernel_rfl) | (rw [if_neg (by decide +kernel)]; exact ⟨rfl, rfl⟩))
    (fun os started H enc _ => lifted os started H enc)
end Go.Proofs.YtjmhkcfdmcjilaaGreat.topLogged
namespace Go.Proofs.YtjmhkcfdmcjilaaGreat
/-- The row, under a short name, for the claim. -/
theorem topLogged_holds : Rows.TopLoggedSaid := topLogged.proved
end Go.Proofs.YtjmhkcfdmcjilaaGreat
