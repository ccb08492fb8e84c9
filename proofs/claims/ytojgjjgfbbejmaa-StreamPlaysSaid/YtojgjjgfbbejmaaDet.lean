/- The detector of streams: what its functions come to, call by call (walks). -/
import Derived.Test.YtojgjjgfbbejmaaProg
import Derived.Below
import Derived.Deep.Draws
import Derived.Deep.AppendLies
import Derived.Maps.AppendAt
import Derived.OwnWalk
import Derived.Laws.BytesArg
import Derived.Laws.MakeOwn
import Derived.Laws.OwnMore
import Derived.Deep.OwnRows
import Derived.Tactics
import Derived.Laws.Slices
import Derived.WalkKit
import Derived.KernelRfl
import Derived.RowKit3
import Derived.Deep.LoopGhost
import Derived.Deep.QuietTactic
import Derived.BigQuiet
import Derived.WideLaws
import Derived.Deep.DeepCutAuto
import Derived.Deep.CutBlock
import Derived.Deep.RegionHeld3
import Derived.Laws.Rows
import Derived.OrdersHeld
import Derived.RowKit
import Derived.Outline
import Derived.BigRegion
import Derived.RegionTactic
import Derived.ChangeAlike
import Derived.Lib.Hide
namespace Go.Proofs.Ytojgjjgfbbejmaa
open Go.RowKit
set_option linter.unusedVariables false
set_option linter.unusedSimpArgs false

set_option maxHeartbeats 400000 in
set_option maxRecDepth 100000 in
theorem new_bad (n : Int) (w : World) (h : n < 1 ∨ 16 < n) :
    Calls Try.prog 8 #[.int .i64 n] w fun e w' => e = .returned (.tuple #[.pointer none, .int .i64 1]) ∧ w' = w := by
  by_cases h1 : n < 1
  · go_enter Try.func8, Try.ntmps8
    go_wp2
    go_ret2
    exact ⟨rfl, rfl⟩
  · have h2 : 16 < n := by omega
    go_enter Try.func8, Try.ntmps8
    go_wp2
    go_ret2
    exact ⟨rfl, rfl⟩


structure Fr (S : Nat → Prop) (w w' : World) : Prop where
  os : w'.os = w.os
  tape : w'.tape = w.tape
  output : w'.output = w.output
  size : w.heap.size ≤ w'.heap.size
  block : ∀ k, k < w.heap.size → ¬ S k → w'.heap[k]? = w.heap[k]?

theorem Fr.refl (S : Nat → Prop) (w : World) : Fr S w w := ⟨rfl, rfl, rfl, Nat.le_refl _, fun _ _ _ => rfl⟩
theorem Fr.trans {S S' : Nat → Prop} {a b c : World} (h : Fr S a b) (k : Fr S' b c) (hs : ∀ i, i < a.heap.size → S' i → S i) : Fr S a c :=
  ⟨k.os.trans h.os, k.tape.trans h.tape, k.output.trans h.output, Nat.le_trans h.size k.size,
    fun i hi hn => (k.block i (Nat.lt_of_lt_of_le hi h.size) (fun h' => hn (hs i hi h'))).trans (h.block i hi hn)⟩
theorem Fr.alloc {S : Nat → Prop} {a b : World} (h : Fr S a b) (o : Obj) : Fr S a (b.alloc o) :=
  ⟨h.os, h.tape, h.output, by have := h.size; simp; omega, fun k hk hn => (Below.heap_alloc _ _ _ (Nat.lt_of_lt_of_le hk h.size)).trans (h.block k hk hn)⟩
theorem Fr.drew {S : Nat → Prop} {a b : World} (h : Fr S a b) : Fr S a b.drew := ⟨h.os, h.tape, h.output, h.size, h.block⟩
theorem Fr.drewN {S : Nat → Prop} {a b : World} (h : Fr S a b) (n : Nat) : Fr S a (b.drewN n) := ⟨h.os, h.tape, h.output, h.size, h.block⟩
theorem Fr.set {S : Nat → Prop} {a b : World} (h : Fr S a b) {p : Addr} (hp : S p.block ∨ a.heap.size ≤ p.block) (u : Value) : Fr S a (b.setCell p u) := by
  refine ⟨h.os, h.tape, h.output, by have := h.size; simp [World.setCell]; omega, fun k hk hn => ?_⟩
  rw [Below.heap_setCell _ _ _ _ (by rintro rfl; rcases hp with hp | hp; exact hn hp; omega)]
  exact h.block k hk hn
theorem Fr.mono {S S' : Nat → Prop} {a b : World} (h : Fr S a b) (hs : ∀ k, S k → S' k) : Fr S' a b := ⟨h.os, h.tape, h.output, h.size, fun k hk hn => h.block k hk (fun h' => hn (hs k h'))⟩
theorem Fr.below {S : Nat → Prop} {a b : World} (h : Fr S a b) (hs : ∀ k, S k → a.heap.size ≤ k) : Below a.heap.size a b :=
  ⟨h.os, h.tape, h.output, h.size, fun k hk => h.block k hk (fun h' => by have := hs k h'; omega)⟩

abbrev One := Int × Int × Int
def one3 (s : One) : List Value := [.int .i64 s.1, .int .i64 s.2.1, .int .i64 s.2.2]
def flat (l : List One) : List Value := l.flatMap one3

theorem flat_length (l : List One) : (flat l).length = 3 * l.length := by
  induction l with
  | nil => rfl
  | cons a l ih => simp only [flat, List.flatMap_cons, List.length_append, List.length_cons] at *; rw [ih]; simp [one3]; omega

theorem flat_cons (a : One) (l : List One) : flat (a :: l) = one3 a ++ flat l := rfl

theorem flat_get (l : List One) : ∀ (i j : Nat) (hi : i < l.length) (_ : j < 3), (flat l)[i * 3 + j]? = (one3 l[i])[j]? := by
  induction l with
  | nil => intro i j hi _; simp at hi
  | cons a l ih =>
    intro i j hi hj
    rw [flat_cons]
    cases i with
    | zero => rw [List.getElem?_append_left (by simp [one3]; omega)]; simp
    | succ i =>
      rw [List.getElem?_append_right (by simp [one3]; omega)]
      have := ih i j (by simpa using hi) hj
      simp only [List.getElem_cons_succ]
      rw [← this]
      congr 1
      simp [one3]; omega

theorem flat_set (l : List One) : ∀ (i : Nat) (a : One) (_ : i < l.length), flat (l.set i a) = (((flat l).set (i * 3) (.int .i64 a.1)).set (i * 3 + 1) (.int .i64 a.2.1)).set (i * 3 + 2) (.int .i64 a.2.2) := by
  induction l with
  | nil => intro i _ hi; simp at hi
  | cons b l ih =>
    intro i a hi
    cases i with
    | zero => simp [flat_cons, one3]
    | succ i =>
      have := ih i a (by simpa using hi)
      simp only [List.set_cons_succ, flat_cons, this]
      have e : (i + 1) * 3 = i * 3 + 1 + 1 + 1 := by omega
      rw [e]
      simp [one3]

theorem flat_set0 (l : List One) (i : Nat) (a : One) (x : Int) (hi : i < l.length) (ha : l[i] = a) : (flat l).set (i * 3) (.int .i64 x) = flat (l.set i (x, a.2)) := by
  rw [flat_set l i _ hi]
  have h1 := flat_get l i 1 hi (by omega)
  have h2 := flat_get l i 2 hi (by omega)
  have hl := flat_length l
  rw [ha] at h1 h2
  simp only [one3] at h1 h2
  apply List.ext_getElem?
  intro m
  simp only [List.getElem?_set, List.length_set]
  by_cases e2 : i * 3 + 2 = m
  · subst e2; simp [hl]; rw [if_pos (by omega)]; simpa using h2
  · rw [if_neg e2]
    by_cases e1 : i * 3 + 1 = m
    · subst e1; simp [hl]; rw [if_pos (by omega)]; simpa using h1
    · rw [if_neg e1]


theorem set_block {w : World} {g : Nat} {t : TypeId} {cs : List Value} (h : w.heap[g]? = some (.cells cs.toArray t (0, 0))) (i : Nat) (u : Value) :
    (w.setCell ⟨g, i, none⟩ u).heap[g]? = some (.cells (cs.set i u).toArray t (0, 0)) := by
  simp only [World.setCell, Array.getElem?_modify, if_true, h, Option.map_some]
  simp
theorem far_block {w : World} {g : Nat} {o : Obj} (h : w.heap[g]? = some o) {p : Addr} (hp : g ≠ p.block) (u : Value) : (w.setCell p u).heap[g]? = some o :=
  (Below.heap_setCell w p u g hp).trans h
theorem frozen_block {w : World} {g : Nat} {t : TypeId} {cs : Array Value} (h : w.heap[g]? = some (.cells cs t (0, 0))) (i : Nat) : w.frozen? ⟨g, i, none⟩ = false := by simp [World.frozen?, h]
theorem cell_flat {w : World} {B : Nat} {l : List One} (h : w.heap[B]? = some (.cells (flat l).toArray 47 (0, 0))) (i : Nat) (hi : i < l.length) :
    w.cell? ⟨B, i * 3, none⟩ = some (.int .i64 l[i].1) ∧ w.cell? ⟨B, i * 3 + 1, none⟩ = some (.int .i64 l[i].2.1) ∧ w.cell? ⟨B, i * 3 + 2, none⟩ = some (.int .i64 l[i].2.2) := by
  have h0 := flat_get l i 0 hi (by omega)
  have h1 := flat_get l i 1 hi (by omega)
  have h2 := flat_get l i 2 hi (by omega)
  refine ⟨?_, ?_, ?_⟩ <;> rw [cell_of_row w B _ _ _ _ h] <;> simp only [List.getElem?_toArray]
  · rw [show i * 3 = i * 3 + 0 from rfl, h0]; rfl
  · rw [h1]; rfl
  · rw [h2]; rfl

def begun (n k : Nat) : List One := (List.range n).map fun i => if i < k then (-1, 0, 0) else (0, 0, 0)
theorem begun_length (n k : Nat) : (begun n k).length = n := by simp [begun]
theorem begun_get (n k i : Nat) (h : i < (begun n k).length) : (begun n k)[i] = if i < k then (-1, 0, 0) else (0, 0, 0) := by simp [begun]
theorem begun_next (n k : Nat) : (begun n k).set k (-1, 0, 0) = begun n (k + 1) := by
  apply List.ext_getElem
  · simp [begun]
  · intro i h1 h2
    simp only [List.getElem_set, begun_get]
    by_cases e : k = i
    · subst e; simp
    · rw [if_neg e]
      by_cases e2 : i < k
      · rw [if_pos e2, if_pos (by omega)]
      · rw [if_neg e2, if_neg (by omega)]
theorem begun_all (n : Nat) : begun n n = List.replicate n (-1, 0, 0) := by
  apply List.ext_getElem
  · simp [begun]
  · intro i h1 h2
    rw [begun_get, if_pos (by simpa [begun] using h1)]; simp
theorem begun_made (n : Nat) : madeCells #[.int .i64 0, .int .i64 0, .int .i64 0] (n * 3) = (flat (begun n 0)).toArray := by
  apply Array.ext
  · simp [size_madeCells, flat_length, begun_length]; omega
  · intro m h1 h2
    simp only [size_madeCells] at h1
    have hf := flat_get (begun n 0) (m / 3) (m % 3) (by rw [begun_length]; omega) (by omega)
    rw [show m / 3 * 3 + m % 3 = m by omega, begun_get] at hf
    have : (flat (begun n 0))[m]? = some (.int .i64 0) := by
      rw [hf]
      have : m % 3 = 0 ∨ m % 3 = 1 ∨ m % 3 = 2 := by omega
      rcases this with e | e | e <;> rw [e] <;> rfl
    have h3 : (flat (begun n 0)).toArray[m] = .int .i64 0 := by
      simp only [List.getElem_toArray]
      exact (List.getElem?_eq_some_iff.1 this).2
    rw [h3]
    simp only [madeCells, Array.getElem_map, Array.getElem_range]
    have : m % 3 = 0 ∨ m % 3 = 1 ∨ m % 3 = 2 := by omega
    rcases this with e | e | e <;> simp [e]

/-- A fact that the walk does not use. -/
structure Aside (p : Prop) : Prop where mk :: (out : p)

/-- The detector at block g, its streams at block B. -/
structure IsDet (w : World) (g B : Nat) (l : List One) (now : Int) : Prop where
  d : w.heap[g]? = some (.cells #[.slice (some ⟨B, 0, none⟩) l.length l.length, .int .i64 now] 45 (0, 0))
  s : w.heap[B]? = some (.cells (flat l).toArray 47 (0, 0))

theorem Try.info47 : (Try.prog.info? 47).map (fun i => (i.zero, i.size, i.bytes)) = some (some (.agg #[.int .i64 0, .int .i64 0, .int .i64 0]), 3, 24) := by kernel_rfl

set_option maxHeartbeats 400000 in
set_option maxRecDepth 100000 in
theorem new_ok (n : Nat) (w : World) (h1 : 1 ≤ n) (h16 : n ≤ 16) :
    Calls Try.prog 8 #[.int .i64 n] w fun e w' => e = .returned (.tuple #[.pointer (some ⟨w.heap.size + 1, 0, none⟩), .int .i64 0]) ∧ IsDet w' (w.heap.size + 1) w.heap.size (List.replicate n (-1, 0, 0)) 0 ∧ Below w.heap.size w w' := by
  obtain ⟨i0, hi, hz0, hz1, hz2⟩ := info_parts Try.info47
  have hmk : ∀ W : World, (Instr.makeSlice 43 (.int .i64 n) (.int .i64 n)).run Try.prog W = .ok (.slice (some ⟨W.heap.size, 0, none⟩) n n) (W.alloc (.cells (flat (begun n 0)).toArray 47)) := by
    intro W
    have := run_make (P := Try.prog) W 43 47 i0 _ Try.underlying43 hi hz0 .i64 .i64 n n (by omega) (by omega) (by rw [hz2]; omega) (by omega)
    have hc : (Value.agg #[Value.int .i64 0, Value.int .i64 0, Value.int .i64 0]).cells = #[.int .i64 0, .int .i64 0, .int .i64 0] := by kernel_rfl
    rw [this, ← begun_made, hz1, hc]
    simp
  clear hi hz0 hz1 hz2
  go_enter Try.func8, Try.ntmps8
  go_wp2_with fail
  go_loopw [5, 21] (fun v5 v21 wr => ∃ k : Nat, k ≤ n ∧ v21 = .int .i64 k ∧ Aside (wr.heap[w.heap.size + 1]? = some (.cells #[.slice (some ⟨w.heap.size, 0, none⟩) n n, .int .i64 0] 45 (0, 0)) ∧ wr.heap[w.heap.size]? = some (.cells (flat (begun n k)).toArray 47 (0, 0)) ∧ Below w.heap.size w wr)) (fun _ v21 _ => n - (intOf v21).toNat)
  case atStart =>
    refine ⟨0, Nat.zero_le _, rfl, ⟨?_, ?_, ?_⟩⟩
    · simpa using heap_alloc_new (w.alloc (.cells (flat (begun n 0)).toArray 47)) _
    · rw [Below.heap_alloc _ _ _ (by simp)]; exact heap_alloc_new w _
    · exact ((Below.refl _ _).alloc (by omega) _).alloc (by simp) _
  case round =>
    obtain ⟨k, hk, rfl, HK⟩ := hrel
    obtain ⟨hg, hb, hB⟩ := HK.out
    by_cases hlt : k < n
    · have hc := cell_of_row _ _ 0 _ _ _ hg
      obtain ⟨hc0, -, -⟩ := cell_flat hb k (by rw [begun_length]; exact hlt)
      have hf := frozen_block hb (k * 3)
      clear hg hb hB hmk
      go_wp2
      go_roundw
      case rel =>
        obtain ⟨hg, hb, hB⟩ := HK.out
        refine ⟨k + 1, by omega, by go_num, ⟨far_block hg (by simp) _, ?_, hB.setCell (by simp) _⟩⟩
        rw [set_block hb, flat_set0 _ k (0, 0, 0) (-1) (by rw [begun_length]; exact hlt) (by rw [begun_get, if_neg (by omega)]), begun_next]
      case measure => simp [intOf]; omega
    · have : k = n := by omega
      subst this
      clear hg hb hB hmk
      go_wp2
      go_ret2
      obtain ⟨hg, hb, hB⟩ := HK.out
      exact ⟨rfl, ⟨by simpa using hg, by rw [← begun_all]; exact hb⟩, hB⟩
end Go.Proofs.Ytojgjjgfbbejmaa
