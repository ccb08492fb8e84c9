/- A slice of commands that came in, opened. -/
import Derived.Test.YtojgjjgfbbejmaaRows
import Derived.Test.YtojgjjgfbbejmaaLast
import Derived.WalkKit
import Derived.ProofKit
import Derived.OpenShut
import Derived.ChangeOld
import Derived.Below
import Derived.SizedLaws
import Derived.Deep.SlicePairs
namespace Go.Proofs.Ytojgjjgfbbejmaa
open Go.ChangeShapes Go.WideShapes Go.ChangeAt Go.RowKit
set_option linter.unusedVariables false
set_option linter.unusedSimpArgs false

theorem wf_bounds {n : Int} (h : (Lit.int .i64 n).wf = true) : InInt n := by
  have := bounds_i64 h
  unfold InInt; omega

theorem Try.cells37 : Try.prog.cellsOf 37 = 2 := by kernel_rfl
theorem Try.cells3 : Try.prog.cellsOf 3 = 1 := by kernel_rfl
theorem Try.fields37 : ∃ f0 f1 : Field, Try.prog.underlying 37 = some (.struct #[f0, f1]) ∧ f0.offset = 0 ∧ f1.offset = 1 ∧ f0.type = 3 ∧ f1.type = 3 := ⟨_, _, Try.underlying37, rfl, rfl, rfl, rfl⟩

theorem open_acts {H : Type} {enc : TypeId × Value → H} {W : World} {base : Nat} {spare : Nat → Bool} {held : Bool} {A : Option Addr} {len cap : Nat} {d : DataW H} {ps : List MemPlace}
    (h : DataW.Trod enc Try.prog W base spare held 33 (.slice A len cap) d ps) : ∃ xs : List (Int × Int), xs.length = len ∧ Acts W A xs ∧ len ≤ maxLen := by
  obtain ⟨fuel, hf⟩ := h
  obtain ⟨f0, f1, hu, o0, o1, t0, t1⟩ := Try.fields37
  rcases Go.Deep.open_slice_pairs Try.underlying33 hu Try.cells37 o0 o1 (by rw [t0]; exact Try.cells3) (by rw [t1]; exact Try.cells3) hf with ⟨hcs, _⟩ | ⟨a, l', c', m, n, V0, V1, D0, D1, P0, P1, hcs, hb, hl, hm, hmm, hx, hi⟩
  · simp [Value.cells] at hcs
    obtain ⟨rfl, rfl, rfl⟩ := hcs
    exact ⟨[], rfl, ⟨fun i h => by simp at h, fun h => by simp at h⟩, by simp [maxLen]⟩
  · simp [Value.cells] at hcs
    obtain ⟨rfl, rfl, rfl⟩ := hcs
    have hlm : len ≤ m := by rw [hmm]; split <;> omega
    have key : ∀ i, i < len → ∃ x y : Int, V0 i = .int .i64 x ∧ V1 i = .int .i64 y ∧ InInt x ∧ InInt y ∧ W.cell? (a.add (i * 2)) = some (V0 i) ∧ W.cell? (a.add (i * 2 + 1)) = some (V1 i) := by
      intro i hlt
      obtain ⟨h0, h1, h2, h3⟩ := hi i (by omega)
      rw [t0] at h2
      rw [t1] at h3
      obtain ⟨x, e0, -, wx⟩ := DataW.trod_int Try.underlying3 h2
      obtain ⟨y, e1, -, wy⟩ := DataW.trod_int Try.underlying3 h3
      simp at e0 e1
      exact ⟨x, y, e0, e1, wf_bounds wx, wf_bounds wy, h0, h1⟩
    let f : Nat → Int := fun i => match V0 i with | .int _ x => x | _ => 0
    let g : Nat → Int := fun i => match V1 i with | .int _ x => x | _ => 0
    have hfg : ∀ i, i < len → V0 i = .int .i64 (f i) ∧ V1 i = .int .i64 (g i) ∧ InInt (f i) ∧ InInt (g i) := by
      intro i hlt
      obtain ⟨x, y, e0, e1, b0, b1, -, -⟩ := key i hlt
      simp only [f, g, e0, e1]
      exact ⟨trivial, trivial, b0, b1⟩
    refine ⟨(List.range len).map fun i => (f i, g i), by simp, ⟨fun i h => ?_, fun h => ?_⟩, by omega⟩
    · simp at h
      simp
      exact ⟨(hfg i h).2.2.1, (hfg i h).2.2.2⟩
    · simp at h
      obtain ⟨_, _, _, _, _, _, h0, _⟩ := key 0 h
      obtain ⟨hp, hlt⟩ : a.spot = none ∧ a.block < W.heap.size := by
        have hb := World.block_lt_of_cell? W _ h0
        have e : a.add (0 * 2) = a := by simp [Addr.add]
        rw [e] at h0 hb
        refine ⟨?_, hb⟩
        unfold World.cell? at h0
        cases hs : a.spot with
        | none => rfl
        | some s => rw [hs] at h0; simp at h0; split at h0 <;> simp at h0
      obtain ⟨b, off, sp⟩ := a
      simp at hp hlt
      subst hp
      refine ⟨b, off, rfl, hlt, fun i h => ?_⟩
      simp at h
      obtain ⟨_, _, _, _, _, _, h0, h1⟩ := key i h
      obtain ⟨e0, e1, -, -⟩ := hfg i h
      have ea : ∀ k, (⟨b, off, none⟩ : Addr).add k = ⟨b, off + k, none⟩ := fun k => by unfold Addr.add; split <;> simp_all
      rw [ea, e0] at h0
      rw [ea, e1] at h1
      simp
      exact ⟨h0, by rw [Nat.add_assoc]; exact h1⟩
end Go.Proofs.Ytojgjjgfbbejmaa
