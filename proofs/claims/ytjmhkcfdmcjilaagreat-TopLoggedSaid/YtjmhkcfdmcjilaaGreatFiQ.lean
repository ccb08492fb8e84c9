/-
  Structs that are loaded, stored and returned whole.
-/
import Derived.Test.YtjmhkcfdmcjilaaGreatFiK
import Derived.Deep.MidRow
set_option linter.unusedVariables false
set_option linter.unusedSimpArgs false
namespace Go.Proofs.YtjmhkcfdmcjilaaGreat
namespace Fi
open Go.RowKit Ai

def L11 (s : Nat → Int) : List Value := [.int .i64 (s 0), .int .i64 (s 1), .int .i64 (s 2), .int .i64 (s 3), .int .i64 (s 4), .int .i64 (s 5), .int .i64 (s 6), .int .i64 (s 7), .int .i64 (s 8), .int .i64 (s 9), .int .i64 (s 10)]

theorem below_setCells {B b : Nat} {a : World} (hB : B ≤ b) : ∀ (vs : List Value) (o : Nat) {w : World}, Below B a w → Below B a (w.setCells b o vs)
  | [], _, _, h => h
  | v :: r, o, w, h => by
    rw [World.setCells]
    exact below_setCells hB r (o + 1) (h.setCell (p := ⟨b, o, none⟩) hB v)

theorem res_cell {P : Program} {fn : Func} {p : Tmp} {ty : TypeId} (h : fn.results = #[.cell p ty]) (tmps : Array Value) (w : World) (b : Nat) (cs : List Value) (d : TypeDesc)
    (hp : tmps.getD p undef = .pointer (some ⟨b, 0, none⟩)) (hc : w.rangeAt b 0 cs) (hu : P.underlying ty = some d) (hd : d.isRow = true) (hi : (P.info? ty).map (·.size) = some cs.length) :
    (results fn tmps).run P w = .ok (.agg cs.toArray) w := by
  have hp' : tmps[p]?.getD undef = .pointer (some ⟨b, 0, none⟩) := by simpa using hp
  simp [results, h, hp', asAddr, run_loadVar_mid w b 0 ty cs d hc hu hd hi]

theorem res_cell_tmp {P : Program} {fn : Func} {p q : Tmp} {ty : TypeId} (h : fn.results = #[.cell p ty, .tmp q]) (tmps : Array Value) (w : World) (b : Nat) (cs : List Value) (d : TypeDesc)
    (hp : tmps.getD p undef = .pointer (some ⟨b, 0, none⟩)) (hc : w.rangeAt b 0 cs) (hu : P.underlying ty = some d) (hd : d.isRow = true) (hi : (P.info? ty).map (·.size) = some cs.length) :
    (results fn tmps).run P w = .ok (.tuple #[.agg cs.toArray, tmps.getD q undef]) w := by
  have hp' : tmps[p]?.getD undef = .pointer (some ⟨b, 0, none⟩) := by simpa using hp
  simp [results, h, hp', asAddr, run_loadVar_mid w b 0 ty cs d hc hu hd hi]

theorem range11 {w : World} {b : Nat} {s : Nat → Int} (h : ∀ j, j < 11 → w.cell? ⟨b, j, none⟩ = some (.int .i64 (s j))) : w.rangeAt b 0 (L11 s) := by
  intro j v hj
  have hlt : j < 11 := (List.getElem?_eq_some_iff.1 hj).1
  rw [Nat.zero_add, h j hlt, ← hj]
  rcases j with _ | _ | _ | _ | _ | _ | _ | _ | _ | _ | _ | j <;> first | rfl | omega

theorem there11 {w : World} {b : Nat} (hf : ∀ j, w.frozen? ⟨b, j, none⟩ = false) (h : ∀ j, j < 11 → w.cell? ⟨b, j, none⟩ = some (.int .i64 0)) : w.there b 0 11 := by
  intro j hj
  rw [Nat.zero_add, h j hj]
  exact ⟨rfl, hf j⟩
theorem store11 {P : Program} {w : World} {b : Nat} (s : Nat → Int) (h : w.there b 0 11) : (storeCells ⟨b, 0, none⟩ (L11 s)).run P w = .ok () (w.setCells b 0 (L11 s)) := by
  have := run_storeCells_cells (P := P) b 0 (L11 s) 0 w (fun j hj => by simpa using (h j hj).1) (fun j hj => by simpa using (h j hj).2) (fun v hv => by
    simp only [L11, List.mem_cons, List.not_mem_nil, or_false] at hv
    rcases hv with rfl | rfl | rfl | rfl | rfl | rfl | rfl | rfl | rfl | rfl | rfl <;> rfl)
  simpa using this
theorem one11 (s : Nat → Int) : ∀ v ∈ L11 s, v.oneCell' = true := by
  intro v hv
  simp only [L11, List.mem_cons, List.not_mem_nil, or_false] at hv
  rcases hv with rfl | rfl | rfl | rfl | rfl | rfl | rfl | rfl | rfl | rfl | rfl <;> rfl
end Fi
end Go.Proofs.YtjmhkcfdmcjilaaGreat
