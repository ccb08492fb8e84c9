/-
  Walk of the tree: balance.
-/
import Derived.Test.YtjmhkcfdmcjilaaGreatFiG
import Derived.Test.YtjmhkcfdmcjilaaGreatFiQ
import Derived.Test.YtjmhkcfdmcjilaaGreatLoB
import Derived.Deep.MidRow
import Derived.Deep.DeepCutAuto
import Derived.Deep.RegionHeld3
import Derived.Test.YtjmhkcfdmcjilaaGreatLoF
/- Walks of the tree: right, left. -/
/- Walks of the arena: has, Get, Put. -/
set_option linter.unusedVariables false
set_option linter.unusedSimpArgs false
namespace Go.Proofs.YtjmhkcfdmcjilaaGreat
namespace Lo
open Go.RowKit Ai Fi

theorem range_new (w : World) (C : List Value) (t : TypeId) (fr : Nat × Nat := (0, 0)) : (w.alloc (.cells C.toArray t fr)).rangeAt w.heap.size 0 C := fun j v hj => by
  rw [cell_of_row _ _ _ _ _ _ (heap_alloc_new w _), Nat.zero_add, List.getElem?_toArray, hj]

def Nd.cells (x : Nd) : List Value := [.int .u32 x.l, .int .u32 x.r, .int .i64 x.h, .int .i64 x.b, .int .i64 x.n, .int .i64 x.p]

/-- The arena's two blocks. -/
structure ArAt (w : World) (a g cap : Nat) (A : Ar) : Prop where
  obj : w.heap[a]? = some (.cells #[.slice (some ⟨g, 0, none⟩) 513 cap, .int .u32 A.free, .int .i64 A.live] 219 (0, 0))
  live : ∀ i, i < 513 → w.cell? ⟨g, i * 8, none⟩ = some (.bool (A.pl i).live)
  next : ∀ i, i < 513 → w.cell? ⟨g, i * 8 + 1, none⟩ = some (.int .u32 (A.pl i).next)
  node : ∀ i, i < 513 → w.rangeAt g (i * 8 + 2) (A.pl i).nd.cells
  fr : ∀ j, w.frozen? ⟨g, j, none⟩ = false
  ne : g ≠ a

theorem ArAt.cells {w : World} {a g cap : Nat} {A : Ar} (h : ArAt w a g cap A) :
    w.cell? ⟨a, 0, none⟩ = some (.slice (some ⟨g, 0, none⟩) 513 cap) ∧ w.cell? ⟨a, 1, none⟩ = some (.int .u32 A.free) ∧ w.cell? ⟨a, 2, none⟩ = some (.int .i64 A.live) :=
  ⟨by rw [cell_of_row _ _ _ _ _ _ h.obj]; rfl, by rw [cell_of_row _ _ _ _ _ _ h.obj]; rfl, by rw [cell_of_row _ _ _ _ _ _ h.obj]; rfl⟩

theorem ArAt.lta {w : World} {a g cap : Nat} {A : Ar} (h : ArAt w a g cap A) : a < w.heap.size := (Array.getElem?_eq_some_iff.1 h.obj).1
theorem ArAt.ltg {w : World} {a g cap : Nat} {A : Ar} (h : ArAt w a g cap A) : g < w.heap.size := World.block_lt_of_cell? w _ (h.live 0 (by decide))

set_option maxHeartbeats 4000000 in
set_option maxRecDepth 100000 in
theorem has_ok (w : World) (a g cap : Nat) (A : Ar) (hA : ArAt w a g cap A) (i : Nat) (hi : i < 4294967296) :
    Calls Tryz.prog 241 #[.pointer (some ⟨a, 0, none⟩), .int .u32 i] w fun e w' => e = .returned (.bool (A.has i)) ∧ w' = w := by
  obtain ⟨c0, -, -⟩ := hA.cells
  by_cases h1 : i < 513
  · have hl := hA.live i h1
    have hh : A.has i = (A.pl i).live := by simp [Ar.has, h1]
    rw [hh]
    obtain ⟨b, hb⟩ : ∃ b, b = (A.pl i).live := ⟨_, rfl⟩
    rw [← hb] at hl ⊢
    clear hb hh hA
    go_enter Tryz.func241, Tryz.ntmps241
    go_wp2_with fail
    go_ret
    exact ⟨rfl, rfl⟩
  · have hh : A.has i = false := by simp [Ar.has, h1]
    rw [hh]
    clear hh hA
    have hm : (i : Int) % 18446744073709551616 = i := by omega
    have hn : ¬ (i : Int) < 513 := by omega
    go_enter Tryz.func241, Tryz.ntmps241
    go_wp2_with fail
    go_ret
    exact ⟨rfl, rfl⟩

theorem ArAt.below {w w' : World} {a g cap : Nat} {A : Ar} (h : ArAt w a g cap A) (hb : Below w.heap.size w w') : ArAt w' a g cap A := by
  have eg : w'.heap[g]? = w.heap[g]? := hb.block g h.ltg
  have ec : ∀ o, w'.cell? ⟨g, o, none⟩ = w.cell? ⟨g, o, none⟩ := fun o => by simp only [World.cell?, eg]
  have ef : ∀ o, w'.frozen? ⟨g, o, none⟩ = w.frozen? ⟨g, o, none⟩ := fun o => by simp only [World.frozen?, eg]
  exact ⟨by rw [hb.block a h.lta]; exact h.obj, fun i hi => by rw [ec]; exact h.live i hi, fun i hi => by rw [ec]; exact h.next i hi, fun i hi j v hj => by rw [ec]; exact h.node i hi j v hj, fun j => by rw [ef]; exact h.fr j, h.ne⟩

theorem node_facts {w : World} {g o : Nat} {x : Nd} (h : w.rangeAt g o x.cells) :
    w.cell? ⟨g, o, none⟩ = some (.int .u32 x.l) ∧ w.cell? ⟨g, o + 1, none⟩ = some (.int .u32 x.r) ∧ w.cell? ⟨g, o + 2, none⟩ = some (.int .i64 x.h) ∧
    w.cell? ⟨g, o + 3, none⟩ = some (.int .i64 x.b) ∧ w.cell? ⟨g, o + 4, none⟩ = some (.int .i64 x.n) ∧ w.cell? ⟨g, o + 5, none⟩ = some (.int .i64 x.p) :=
  ⟨h 0 _ rfl, h 1 _ rfl, h 2 _ rfl, h 3 _ rfl, h 4 _ rfl, h 5 _ rfl⟩

def Nd.V (x : Nd) : Value := .agg #[.int .u32 x.l, .int .u32 x.r, .int .i64 x.h, .int .i64 x.b, .int .i64 x.n, .int .i64 x.p]

def AGetPost (x : Nd) (w : World) (e : Ending) (w' : World) : Prop := ∃ er, e = .returned (.tuple #[.agg #[.int .u32 x.l, .int .u32 x.r, .int .i64 x.h, .int .i64 x.b, .int .i64 x.n, .int .i64 x.p], .int .i64 er]) ∧ Below w.heap.size w w'

set_option maxHeartbeats 4000000 in
set_option maxRecDepth 100000 in
theorem aget_ok (w : World) (a g cap : Nat) (A : Ar) (hA : ArAt w a g cap A) (i : Nat) (hi : i < 4294967296) :
    Calls Tryz.prog 235 #[.pointer (some ⟨a, 0, none⟩), .int .u32 i] w (AGetPost (A.get i) w) := by
  have HA := Aside.mk hA
  have HB := Aside.mk ((Below.refl w.heap.size w).alloc (Nat.le_refl _) (.cells #[.int .u32 0, .int .u32 0, .int .i64 0, .int .i64 0, .int .i64 0, .int .i64 0] 221))
  have HH := Aside.mk (has_ok _ a g cap A (hA.below HB.out) i hi)
  obtain ⟨c0, -, -⟩ := hA.cells
  have hla := hA.lta
  have hlg := hA.ltg
  obtain ⟨b, hb⟩ : ∃ b, b = A.has i := ⟨_, rfl⟩
  rw [← hb] at HH
  have hgt : A.get i = if b then (A.pl i).nd else Nd.zero := by rw [hb]; rfl
  cases b
  · rw [hgt]
    clear hgt hb hA
    go_enter Tryz.func235, Tryz.ntmps235
    go_wp2_with (go_at_call 241; go_loud (refine HH.out.mono ?_; rintro e w1 ⟨rfl, rfl⟩))
    refine bodyPost_ret (res_cell_tmp (p := 4) (q := 5) (ty := 221) rfl _ _ w.heap.size Nd.zero.cells _ rfl (range_new _ _ _) Tryz.underlying221 rfl (by kernel_rfl)) rfl ?_
    exact ⟨_, rfl, (Below.refl _ w).alloc (Nat.le_refl _) _⟩
  · rw [hgt]
    have h1 : i < 513 := by
      have : A.has i = true := hb.symm
      simp only [Ar.has, Bool.and_eq_true, decide_eq_true_eq] at this
      exact this.1
    obtain ⟨f0, f1, f2, f3, f4, f5⟩ := node_facts (hA.node i h1)
    obtain ⟨x, hx⟩ : ∃ x, x = (A.pl i).nd := ⟨_, rfl⟩
    rw [← hx] at f0 f1 f2 f3 f4 f5 ⊢
    clear hgt hb hA hx
    go_enter Tryz.func235, Tryz.ntmps235
    go_wp2_with (go_at_call 241; go_loud (refine HH.out.mono ?_; rintro e w1 ⟨rfl, rfl⟩))
    refine bodyPost_ret (res_cell_tmp (p := 4) (q := 5) (ty := 221) rfl _ _ w.heap.size x.cells _ rfl (range_new _ _ _) Tryz.underlying221 rfl (by kernel_rfl)) rfl ?_
    exact ⟨_, rfl, (Below.refl _ w).alloc (Nat.le_refl _) _⟩

theorem nd_one (x : Nd) : ∀ v ∈ x.cells, v.oneCell' = true := by
  intro v hv
  simp only [Nd.cells, List.mem_cons, List.not_mem_nil, or_false] at hv
  rcases hv with rfl | rfl | rfl | rfl | rfl | rfl <;> rfl
/-- A block that was made, and is there behind a call that has made more. -/
theorem there_new_below {w w1 : World} {C : List Value} {t : TypeId} {n : Nat} (hb : Below (w.alloc (.cells C.toArray t)).heap.size (w.alloc (.cells C.toArray t)) w1) (hn : C.length = n) : w1.there w.heap.size 0 n := fun j hj => by
  have e : w1.heap[w.heap.size]? = some (.cells C.toArray t) := (hb.block _ (by simp)).trans (heap_alloc_new w _)
  refine ⟨?_, ?_⟩
  · rw [cell_of_row _ _ _ _ _ _ e]
    simp; omega
  · simp [World.frozen?, e]
def GetPost (x : Nd) (w : World) (e : Ending) (w' : World) : Prop := e = .returned (.agg #[.int .u32 x.l, .int .u32 x.r, .int .i64 x.h, .int .i64 x.b, .int .i64 x.n, .int .i64 x.p]) ∧ Below w.heap.size w w'

/-- A tree's object: its arena, its root, its length. -/
structure TreeAt (w : World) (t a g cap : Nat) (A : Ar) (root : Nat) (len : Int) : Prop where
  obj : w.heap[t]? = some (.cells #[.pointer (some ⟨a, 0, none⟩), .int .u32 root, .int .i64 len] 225 (0, 0))
  ar : ArAt w a g cap A
  na : t ≠ a
  ng : t ≠ g
theorem TreeAt.ltt {w : World} {t a g cap : Nat} {A : Ar} {root : Nat} {len : Int} (h : TreeAt w t a g cap A root len) : t < w.heap.size := (Array.getElem?_eq_some_iff.1 h.obj).1
theorem TreeAt.below {w w' : World} {t a g cap : Nat} {A : Ar} {root : Nat} {len : Int} (h : TreeAt w t a g cap A root len) (hb : Below w.heap.size w w') : TreeAt w' t a g cap A root len :=
  ⟨by rw [hb.block t h.ltt]; exact h.obj, h.ar.below hb, h.na, h.ng⟩
theorem TreeAt.cells {w : World} {t a g cap : Nat} {A : Ar} {root : Nat} {len : Int} (h : TreeAt w t a g cap A root len) :
    w.cell? ⟨t, 0, none⟩ = some (.pointer (some ⟨a, 0, none⟩)) ∧ w.cell? ⟨t, 1, none⟩ = some (.int .u32 root) ∧ w.cell? ⟨t, 2, none⟩ = some (.int .i64 len) :=
  ⟨by rw [cell_of_row _ _ _ _ _ _ h.obj]; rfl, by rw [cell_of_row _ _ _ _ _ _ h.obj]; rfl, by rw [cell_of_row _ _ _ _ _ _ h.obj]; rfl⟩

set_option maxHeartbeats 4000000 in
set_option maxRecDepth 100000 in
theorem get_ok (w : World) (t a g cap : Nat) (A : Ar) (root : Nat) (len : Int) (hT : TreeAt w t a g cap A root len) (i : Nat) (hi : i < 4294967296) :
    Calls Tryz.prog 227 #[.pointer (some ⟨t, 0, none⟩), .int .u32 i] w (GetPost (A.get i) w) := by
  have HB := Aside.mk ((Below.refl w.heap.size w).alloc (Nat.le_refl _) (.cells #[.int .u32 0, .int .u32 0, .int .i64 0, .int .i64 0, .int .i64 0, .int .i64 0] 221))
  have HG := Aside.mk (aget_ok _ a g cap A (hT.below HB.out).ar i hi)
  obtain ⟨c0, -, -⟩ := hT.cells
  have hlt := hT.ltt
  obtain ⟨x, hx⟩ : ∃ x, x = A.get i := ⟨_, rfl⟩
  rw [← hx] at HG ⊢
  clear hx hT
  go_enter Tryz.func227, Tryz.ntmps227
  go_upto_region 2 with (go_at_call 235; go_loud (refine HG.out.mono ?_; rintro e w1 ⟨er, rfl, hb⟩; have HB1 := Aside.mk (HB.out.trans (hb.mono HB.out.size)); have HT := Aside.mk (there_new_below hb (show Nd.zero.cells.length = 6 from rfl))))
  rename_i K hK
  apply wp_region_lit
  have HT2 := World.there_alloc HT.out (.cells x.cells.toArray 221)
  refine wpList_load_mid rfl 221 (.tmp 5) rfl w1.heap.size 0 (by kernel_rfl) x.cells _ (range_new w1 x.cells 221) Tryz.underlying221 rfl (by kernel_rfl) ?_
  refine wpList_store_mid rfl 221 (.tmp 4) (.tmp 16) rfl w.heap.size 0 x.cells.toArray (by kernel_rfl) (by kernel_rfl) HT2 (by kernel_rfl) (all_oneCell_toArray (nd_one x)) ?_
  refine wpList_nil ?_
  refine hK _ _ (wp_ret ?_)
  refine bodyPost_ret (res_cell (p := 4) (ty := 221) rfl _ _ w.heap.size x.cells _ (by kernel_rfl) (World.rangeAt_setCells_same _ _ _ _ HT2) Tryz.underlying221 rfl (by kernel_rfl)) (by kernel_rfl) ?_
  exact ⟨rfl, below_setCells (Nat.le_refl _) _ _ (HB1.out.alloc HB1.out.size _)⟩

def HeightPost (x : Nd) (w : World) (e : Ending) (w' : World) : Prop := e = .returned (.int .i64 x.h) ∧ Below w.heap.size w w'

theorem field_h (w : World) (x : Nd) : (Instr.field 221 (.agg #[.int .u32 x.l, .int .u32 x.r, .int .i64 x.h, .int .i64 x.b, .int .i64 x.n, .int .i64 x.p]) 2).run Tryz.prog w = .ok (.int .i64 x.h) w := by
  kernel_rfl

set_option maxHeartbeats 4000000 in
set_option maxRecDepth 100000 in
theorem height_ok (w : World) (t a g cap : Nat) (A : Ar) (root : Nat) (len : Int) (hT : TreeAt w t a g cap A root len) (i : Nat) (hi : i < 4294967296) :
    Calls Tryz.prog 239 #[.pointer (some ⟨t, 0, none⟩), .int .u32 i] w (HeightPost (A.get i) w) := by
  have HG := Aside.mk (get_ok w t a g cap A root len hT i hi)
  obtain ⟨x, hx⟩ : ∃ x, x = A.get i := ⟨_, rfl⟩
  rw [← hx] at HG ⊢
  clear hx hT
  go_enter Tryz.func239, Tryz.ntmps239
  have hf := fun w => field_h w x
  go_wp2_with (go_at_call 227; go_loud (refine HG.out.mono ?_; rintro e w1 ⟨rfl, hb⟩))
  go_ret
  exact ⟨rfl, hb⟩

/-- Nothing that was there has turned, but the blocks of S. -/
structure ModB (S : Nat → Prop) (w w' : World) : Prop where
  os : w'.os = w.os
  tape : w'.tape = w.tape
  output : w'.output = w.output
  size : w.heap.size ≤ w'.heap.size
  block : ∀ k, k < w.heap.size → ¬ S k → w'.heap[k]? = w.heap[k]?
theorem ModB.of_below {w w' : World} (h : Below w.heap.size w w') (S : Nat → Prop) : ModB S w w' := ⟨h.os, h.tape, h.output, h.size, fun k hk _ => h.block k hk⟩
theorem ModB.refl (S : Nat → Prop) (w : World) : ModB S w w := ⟨rfl, rfl, rfl, Nat.le_refl _, fun _ _ _ => rfl⟩
theorem ModB.trans {S : Nat → Prop} {a b c : World} (h : ModB S a b) (k : ModB S b c) : ModB S a c :=
  ⟨k.os.trans h.os, k.tape.trans h.tape, k.output.trans h.output, Nat.le_trans h.size k.size, fun j hj hm => (k.block j (Nat.lt_of_lt_of_le hj h.size) hm).trans (h.block j hj hm)⟩
theorem ModB.mono {S T : Nat → Prop} {a b : World} (h : ModB S a b) (hs : ∀ k, k < a.heap.size → S k → T k) : ModB T a b := ⟨h.os, h.tape, h.output, h.size, fun k hk hm => h.block k hk fun hS => hm (hs k hk hS)⟩
theorem ModB.below {S : Nat → Prop} {w w' a : World} {B : Nat} (h : ModB S w w') (hb : Below B a w) (hB : B ≤ w.heap.size) (hm : ∀ k, S k → B ≤ k) : Below B a w' :=
  ⟨h.os.trans hb.os, h.tape.trans hb.tape, h.output.trans hb.output, Nat.le_trans hb.size h.size, fun k hk => (h.block k (by omega) (fun hS => by have := hm k hS; omega)).trans (hb.block k hk)⟩
theorem ModB.alloc {S : Nat → Prop} {a w : World} (h : ModB S a w) (o : Obj) : ModB S a (w.alloc o) := h.trans (ModB.of_below ((Below.refl _ w).alloc (Nat.le_refl _) o) S)
theorem ModB.below1 {S : Nat → Prop} {a w w' : World} (h : ModB S a w) (hb : Below w.heap.size w w') : ModB S a w' := h.trans (ModB.of_below hb S)

theorem setCells_heap {b : Nat} : ∀ (vs : List Value) (o : Nat) (w : World) (k : Nat), k ≠ b → (w.setCells b o vs).heap[k]? = w.heap[k]?
  | [], _, _, _, _ => rfl
  | v :: r, o, w, k, h => by
    rw [World.setCells, setCells_heap r (o + 1) _ k h]
    exact heap_setCell_other w ⟨b, o, none⟩ k v h
theorem setCells_size {b : Nat} : ∀ (vs : List Value) (o : Nat) (w : World), (w.setCells b o vs).heap.size = w.heap.size
  | [], _, _ => rfl
  | v :: r, o, w => by
    rw [World.setCells, setCells_size r (o + 1) _]
    simp [World.setCell]
theorem setCells_same {b : Nat} : ∀ (vs : List Value) (o : Nat) (w : World), (w.setCells b o vs).os = w.os ∧ (w.setCells b o vs).tape = w.tape ∧ (w.setCells b o vs).output = w.output
  | [], _, _ => ⟨rfl, rfl, rfl⟩
  | v :: r, o, w => by
    rw [World.setCells]
    exact setCells_same r (o + 1) _
theorem modB_setCells (w : World) (b o : Nat) (vs : List Value) : ModB (· = b) w (w.setCells b o vs) :=
  ⟨(setCells_same vs o w).1, (setCells_same vs o w).2.1, (setCells_same vs o w).2.2, by rw [setCells_size]; exact Nat.le_refl _, fun k _ hk => setCells_heap vs o w k hk⟩

/-- A node is stored. -/
theorem ArAt.setNode {w : World} {a g cap : Nat} {A : Ar} (h : ArAt w a g cap A) {i : Nat} (hi : i < 513) (x : Nd) : ArAt (w.setCells g (i * 8 + 2) x.cells) a g cap (A.set i { A.pl i with nd := x }) := by
  have hl : x.cells.length = 6 := rfl
  have out : ∀ o, (o < i * 8 + 2 ∨ i * 8 + 8 ≤ o) → (w.setCells g (i * 8 + 2) x.cells).cell? ⟨g, o, none⟩ = w.cell? ⟨g, o, none⟩ := fun o ho => World.cell?_setCells_out g x.cells _ w ⟨g, o, none⟩ (fun _ _ => by
    show o < i * 8 + 2 ∨ i * 8 + 2 + x.cells.length ≤ o
    omega)
  have ht : w.there g (i * 8 + 2) x.cells.length := fun j hj => ⟨(h.node i hi).isSome j hj, h.fr _⟩
  refine ⟨?_, fun j hj => ?_, fun j hj => ?_, fun j hj => ?_, fun j => by rw [World.frozen?_setCells]; exact h.fr j, h.ne⟩
  · rw [setCells_heap _ _ _ _ (Ne.symm h.ne)]; exact h.obj
  · rw [out _ (by omega), h.live j hj]
    simp only [Ar.set]; split
    · rename_i e; subst e; rfl
    · rfl
  · rw [out _ (by omega), h.next j hj]
    simp only [Ar.set]; split
    · rename_i e; subst e; rfl
    · rfl
  · by_cases e : j = i
    · subst e
      simp only [Ar.set, if_true]
      exact World.rangeAt_setCells_same _ _ _ _ ht
    · simp only [Ar.set, if_neg e]
      exact World.rangeAt_setCells_apart (h.node j hj) _ _ _ (.inr (by
        show j * 8 + 2 + 6 ≤ i * 8 + 2 ∨ i * 8 + 2 + 6 ≤ j * 8 + 2
        omega))

theorem box6 (w : World) (x : Nd) : (w.alloc (.cells #[.int .u32 x.l, .int .u32 x.r, .int .i64 x.h, .int .i64 x.b, .int .i64 x.n, .int .i64 x.p] 221)).cell? ⟨w.heap.size, 0, none⟩ = some (.int .u32 x.l) ∧ (w.alloc (.cells #[.int .u32 x.l, .int .u32 x.r, .int .i64 x.h, .int .i64 x.b, .int .i64 x.n, .int .i64 x.p] 221)).cell? ⟨w.heap.size, 1, none⟩ = some (.int .u32 x.r) ∧
    (w.alloc (.cells #[.int .u32 x.l, .int .u32 x.r, .int .i64 x.h, .int .i64 x.b, .int .i64 x.n, .int .i64 x.p] 221)).cell? ⟨w.heap.size, 2, none⟩ = some (.int .i64 x.h) ∧ (w.alloc (.cells #[.int .u32 x.l, .int .u32 x.r, .int .i64 x.h, .int .i64 x.b, .int .i64 x.n, .int .i64 x.p] 221)).cell? ⟨w.heap.size, 3, none⟩ = some (.int .i64 x.b) ∧
    (w.alloc (.cells #[.int .u32 x.l, .int .u32 x.r, .int .i64 x.h, .int .i64 x.b, .int .i64 x.n, .int .i64 x.p] 221)).cell? ⟨w.heap.size, 4, none⟩ = some (.int .i64 x.n) ∧ (w.alloc (.cells #[.int .u32 x.l, .int .u32 x.r, .int .i64 x.h, .int .i64 x.b, .int .i64 x.n, .int .i64 x.p] 221)).cell? ⟨w.heap.size, 5, none⟩ = some (.int .i64 x.p) := by
  have h := node_facts (range_new w x.cells 221)
  rw [Nat.zero_add] at h
  exact h

theorem setCells6 (W : World) (g o : Nat) (x : Nd) : W.setCells g o x.cells = (((((W.setCell ⟨g, o, none⟩ (.int .u32 x.l)).setCell ⟨g, o + 1, none⟩ (.int .u32 x.r)).setCell ⟨g, o + 2, none⟩ (.int .i64 x.h)).setCell ⟨g, o + 3, none⟩ (.int .i64 x.b)).setCell ⟨g, o + 4, none⟩ (.int .i64 x.n)).setCell ⟨g, o + 5, none⟩ (.int .i64 x.p) := by
  simp only [Nd.cells, World.setCells, Nat.add_assoc, Nat.reduceAdd]

def PutPost (w : World) (a g cap : Nat) (A : Ar) (e : Ending) (w' : World) : Prop := ∃ er, e = .returned (.int .i64 er) ∧ ModB (· = g) w w' ∧ ArAt w' a g cap A

set_option maxHeartbeats 4000000 in
set_option maxRecDepth 100000 in
theorem aput_ok (w : World) (a g cap : Nat) (A : Ar) (hA : ArAt w a g cap A) (i : Nat) (hi : i < 4294967296) (x : Nd) :
    Calls Tryz.prog 240 #[.pointer (some ⟨a, 0, none⟩), .int .u32 i, x.V] w (PutPost w a g cap (A.put i x)) := by
  have HB := Aside.mk ((Below.refl w.heap.size w).alloc (Nat.le_refl _) (.cells #[.int .u32 x.l, .int .u32 x.r, .int .i64 x.h, .int .i64 x.b, .int .i64 x.n, .int .i64 x.p] 221))
  have HH := Aside.mk (has_ok _ a g cap A (hA.below HB.out) i hi)
  have HA := Aside.mk (hA.below HB.out)
  obtain ⟨c0, -, -⟩ := hA.cells
  have hla := hA.lta
  have hlg := hA.ltg
  unfold Nd.V
  obtain ⟨b, hb⟩ : ∃ b, b = A.has i := ⟨_, rfl⟩
  rw [← hb] at HH
  cases b
  · have e : A.put i x = A := by rw [Ar.put, ← hb]; rfl
    rw [e]
    clear e hb hA
    go_enter Tryz.func240, Tryz.ntmps240
    go_wp2_with (go_at_call 241; go_loud (refine HH.out.mono ?_; rintro e w1 ⟨rfl, rfl⟩))
    go_ret
    exact ⟨_, rfl, ModB.of_below HB.out _, HA.out⟩
  · have e : A.put i x = A.set i { A.pl i with nd := x } := by rw [Ar.put, ← hb]; rfl
    rw [e]
    have h1 : i < 513 := by
      have : A.has i = true := hb.symm
      simp only [Ar.has, Bool.and_eq_true, decide_eq_true_eq] at this
      exact this.1
    have HT := Aside.mk (show (w.alloc (.cells #[.int .u32 x.l, .int .u32 x.r, .int .i64 x.h, .int .i64 x.b, .int .i64 x.n, .int .i64 x.p] 221)).there g (i * 8 + 2) 6 from fun j hj => ⟨(HA.out.node i h1).isSome j hj, HA.out.fr _⟩)
    have hi0 : (0 : Int) ≤ (i : Int) := by omega
    have hi1 : (i : Int) < 513 := by omega
    clear e hb hA
    go_enter Tryz.func240, Tryz.ntmps240
    go_upto_region 3 with (go_at_call 241; go_loud (refine HH.out.mono ?_; rintro e w1 ⟨rfl, rfl⟩))
    obtain ⟨g0, g1, g2, g3, g4, g5⟩ := box6 w x
    obtain ⟨W1, hW⟩ : ∃ W1, W1 = w.alloc (.cells #[.int .u32 x.l, .int .u32 x.r, .int .i64 x.h, .int .i64 x.b, .int .i64 x.n, .int .i64 x.p] 221) := ⟨_, rfl⟩
    rw [← hW] at HA HB HH g0 g1 g2 g3 g4 g5 ⊢
    obtain ⟨f0, f1, f2, f3, f4, f5⟩ := node_facts (HA.out.node i h1)
    have z0 := HA.out.fr (i * 8 + 2)
    have z1 := HA.out.fr (i * 8 + 2 + 1)
    have z2 := HA.out.fr (i * 8 + 2 + 2)
    have z3 := HA.out.fr (i * 8 + 2 + 3)
    have z4 := HA.out.fr (i * 8 + 2 + 4)
    have z5 := HA.out.fr (i * 8 + 2 + 5)
    have c1 := HA.out.cells.1
    have n1 : g ≠ a := HA.out.ne
    have n2 : g ≠ w.heap.size := Nat.ne_of_lt hlg
    clear hW
    go_region_held3 (fun W' => W'.cell? ⟨a, 0, none⟩ = some (.slice (some ⟨g, 0, none⟩) 513 cap) ∧ W'.cell? ⟨w.heap.size, 0, none⟩ = some (.int .u32 x.l) ∧ W'.cell? ⟨w.heap.size, 1, none⟩ = some (.int .u32 x.r) ∧ W'.cell? ⟨w.heap.size, 2, none⟩ = some (.int .i64 x.h) ∧ W'.cell? ⟨w.heap.size, 3, none⟩ = some (.int .i64 x.b) ∧ W'.cell? ⟨w.heap.size, 4, none⟩ = some (.int .i64 x.n) ∧ W'.cell? ⟨w.heap.size, 5, none⟩ = some (.int .i64 x.p)) (first | (with_reducible exact ⟨c1, g0, g1, g2, g3, g4, g5⟩) | (go_keep; done)) (fail)
    rename_i hh
    clear hh
    rw [← setCells6]
    have HM := Aside.mk ((ModB.of_below HB.out (· = g)).trans (modB_setCells W1 g (i * 8 + 2) x.cells))
    have HA2 := Aside.mk (HA.out.setNode h1 x)
    generalize W1.setCells g (i * 8 + 2) x.cells = W2 at HM HA2 ⊢
    go_wp2_with fail
    go_ret
    exact ⟨_, rfl, HM.out.below1 (Below.refl _ W2).drew, HA2.out.below (Below.refl _ W2).drew⟩
end Lo
end Go.Proofs.YtjmhkcfdmcjilaaGreat
/- Walks of the tree: put, right, left, balance. -/
set_option linter.unusedVariables false
set_option linter.unusedSimpArgs false
namespace Go.Proofs.YtjmhkcfdmcjilaaGreat
namespace Lo
open Go.RowKit Ai Fi

/-- A tree, and a node in a box. -/
structure BoxT (w W : World) (t a g cap : Nat) (A : Ar) (root : Nat) (len : Int) (b : Nat) (x : Nd) : Prop where
  tr : TreeAt W t a g cap A root len
  box : W.heap[b]? = some (.cells #[.int .u32 x.l, .int .u32 x.r, .int .i64 x.h, .int .i64 x.b, .int .i64 x.n, .int .i64 x.p] 221 (0, 0))
  bel : Below w.heap.size w W
  hb : w.heap.size ≤ b
  ltt : t < w.heap.size
  lta : a < w.heap.size
  ltg : g < w.heap.size

theorem BoxT.lt {w W : World} {t a g cap : Nat} {A : Ar} {root : Nat} {len : Int} {b : Nat} {x : Nd} (h : BoxT w W t a g cap A root len b x) : b < W.heap.size := (Array.getElem?_eq_some_iff.1 h.box).1
theorem BoxT.below {w W W' : World} {t a g cap : Nat} {A : Ar} {root : Nat} {len : Int} {b : Nat} {x : Nd} (h : BoxT w W t a g cap A root len b x) (hb : Below W.heap.size W W') : BoxT w W' t a g cap A root len b x :=
  ⟨h.tr.below hb, by rw [hb.block b h.lt]; exact h.box, h.bel.trans (hb.mono h.bel.size), h.hb, h.ltt, h.lta, h.ltg⟩
theorem BoxT.facts {w W : World} {t a g cap : Nat} {A : Ar} {root : Nat} {len : Int} {b : Nat} {x : Nd} (h : BoxT w W t a g cap A root len b x) :
    W.cell? ⟨b, 0, none⟩ = some (.int .u32 x.l) ∧ W.cell? ⟨b, 1, none⟩ = some (.int .u32 x.r) ∧ W.cell? ⟨b, 2, none⟩ = some (.int .i64 x.h) ∧ W.cell? ⟨b, 3, none⟩ = some (.int .i64 x.b) ∧ W.cell? ⟨b, 4, none⟩ = some (.int .i64 x.n) ∧ W.cell? ⟨b, 5, none⟩ = some (.int .i64 x.p) :=
  ⟨by rw [cell_of_row _ _ _ _ _ _ h.box]; rfl, by rw [cell_of_row _ _ _ _ _ _ h.box]; rfl, by rw [cell_of_row _ _ _ _ _ _ h.box]; rfl, by rw [cell_of_row _ _ _ _ _ _ h.box]; rfl, by rw [cell_of_row _ _ _ _ _ _ h.box]; rfl, by rw [cell_of_row _ _ _ _ _ _ h.box]; rfl⟩
theorem BoxT.fr {w W : World} {t a g cap : Nat} {A : Ar} {root : Nat} {len : Int} {b : Nat} {x : Nd} (h : BoxT w W t a g cap A root len b x) (j : Nat) : W.frozen? ⟨b, j, none⟩ = false := by
  simp [World.frozen?, h.box]

theorem keep2 {W : World} {b : Nat} {x y : Value} (f0 : W.cell? ⟨b, 0, none⟩ = some x) (f1 : W.cell? ⟨b, 1, none⟩ = some y) (v : Value) : (W.setCell ⟨b, 2, none⟩ v).cell? ⟨b, 0, none⟩ = some x ∧ (W.setCell ⟨b, 2, none⟩ v).cell? ⟨b, 1, none⟩ = some y :=
  ⟨(World.cell?_setCell_other W _ _ v (by simp)).trans f0, (World.cell?_setCell_other W _ _ v (by simp)).trans f1⟩

theorem ModB.cell {S : Nat → Prop} {w w' : World} (h : ModB S w w') {b o : Nat} {v : Value} (hc : w.cell? ⟨b, o, none⟩ = some v) (hn : ¬ S b) : w'.cell? ⟨b, o, none⟩ = some v := by
  have e := h.block b (World.block_lt_of_cell? w _ hc) hn
  rw [← hc]
  simp only [World.cell?, e]
theorem ArAt.same {w w' : World} {a g cap : Nat} {A : Ar} (h : ArAt w a g cap A) (ea : w'.heap[a]? = w.heap[a]?) (eg : w'.heap[g]? = w.heap[g]?) : ArAt w' a g cap A := by
  have ec : ∀ o, w'.cell? ⟨g, o, none⟩ = w.cell? ⟨g, o, none⟩ := fun o => by simp only [World.cell?, eg]
  have ef : ∀ o, w'.frozen? ⟨g, o, none⟩ = w.frozen? ⟨g, o, none⟩ := fun o => by simp only [World.frozen?, eg]
  exact ⟨by rw [ea]; exact h.obj, fun i hi => by rw [ec]; exact h.live i hi, fun i hi => by rw [ec]; exact h.next i hi, fun i hi j v hj => by rw [ec]; exact h.node i hi j v hj, fun j => by rw [ef]; exact h.fr j, h.ne⟩
theorem TreeAt.same {w w' : World} {t a g cap : Nat} {A : Ar} {root : Nat} {len : Int} (h : TreeAt w t a g cap A root len) (et : w'.heap[t]? = w.heap[t]?) (ea : w'.heap[a]? = w.heap[a]?) (eg : w'.heap[g]? = w.heap[g]?) : TreeAt w' t a g cap A root len :=
  ⟨by rw [et]; exact h.obj, h.ar.same ea eg, h.na, h.ng⟩
theorem BoxT.put {w W : World} {t a g cap : Nat} {A : Ar} {root : Nat} {len : Int} {b : Nat} {x : Nd} (h : BoxT w W t a g cap A root len b x) (j : Nat) (v : Value) (y : Nd)
    (hy : #[Value.int .u32 x.l, .int .u32 x.r, .int .i64 x.h, .int .i64 x.b, .int .i64 x.n, .int .i64 x.p].setIfInBounds j v = #[.int .u32 y.l, .int .u32 y.r, .int .i64 y.h, .int .i64 y.b, .int .i64 y.n, .int .i64 y.p]) :
    BoxT w (W.setCell ⟨b, j, none⟩ v) t a g cap A root len b y := by
  have o : ∀ k, k < w.heap.size → (W.setCell ⟨b, j, none⟩ v).heap[k]? = W.heap[k]? := fun k hk => heap_setCell_other W ⟨b, j, none⟩ k v (by have := h.hb; show k ≠ b; omega)
  refine ⟨h.tr.same (o t h.ltt) (o a h.lta) (o g h.ltg), ?_, ?_, h.hb, h.ltt, h.lta, h.ltg⟩
  · rw [heap_setCell_same W b j _ 221 _ h.box, hy]
  · exact h.bel.setCell (p := ⟨b, j, none⟩) h.hb v

theorem wmax {a b : Int} (h1 : 0 ≤ a ∧ a ≤ 100000) (h2 : 0 ≤ b ∧ b ≤ 100000) : IntKind.i64.wrap (1 + if a < b then b else a) = 1 + max a b := by
  rw [IntKind.wrap_i64]
  split <;> omega

def TPutPost (w : World) (t a g cap : Nat) (A : Ar) (root : Nat) (len : Int) (i : Nat) (e : Ending) (w' : World) : Prop := e = .returned (.int .u32 i) ∧ ModB (· = g) w w' ∧ TreeAt w' t a g cap A root len

set_option maxHeartbeats 4000000 in
set_option maxRecDepth 100000 in
theorem tput_ok (w : World) (t a g cap : Nat) (A : Ar) (root : Nat) (len : Int) (hT : TreeAt w t a g cap A root len) (i : Nat) (hi : i < 4294967296) (x : Nd) (hl : x.l < 4294967296) (hr : x.r < 4294967296) (k : Int) (hk : k ≤ 100000) (hH : HB A k) :
    Calls Tryz.prog 233 #[.pointer (some ⟨t, 0, none⟩), .int .u32 i, x.V] w (TPutPost w t a g cap (A.tput i x) root len i) := by
  have hbx : (w.alloc (.cells #[.int .u32 x.l, .int .u32 x.r, .int .i64 x.h, .int .i64 x.b, .int .i64 x.n, .int .i64 x.p] 221)).heap[w.heap.size]? = _ := heap_alloc_new w _
  have ST := Aside.mk (BoxT.mk (hT.below ((Below.refl w.heap.size w).alloc (Nat.le_refl _) (.cells #[.int .u32 x.l, .int .u32 x.r, .int .i64 x.h, .int .i64 x.b, .int .i64 x.n, .int .i64 x.p] 221))) hbx ((Below.refl w.heap.size w).alloc (Nat.le_refl _) _) (Nat.le_refl _) hT.ltt hT.ar.lta hT.ar.ltg)
  have HL := Aside.mk (hH x.l)
  have HR := Aside.mk (hH x.r)
  have h1 : (0 : Int) ≤ (A.get x.l).h ∧ (A.get x.l).h ≤ 100000 := by have := hH x.l; omega
  have h2 : (0 : Int) ≤ (A.get x.r).h ∧ (A.get x.r).h ≤ 100000 := by have := hH x.r; omega
  have HC1 := Aside.mk (fun (W : World) (h : TreeAt W t a g cap A root len) => height_ok W t a g cap A root len h x.l hl)
  have HC2 := Aside.mk (fun (W : World) (h : TreeAt W t a g cap A root len) => height_ok W t a g cap A root len h x.r hr)
  obtain ⟨yl, hyl⟩ : ∃ y, y = A.get x.l := ⟨_, rfl⟩
  obtain ⟨yr, hyr⟩ : ∃ y, y = A.get x.r := ⟨_, rfl⟩
  obtain ⟨y, hy⟩ : ∃ y : Nd, y = ⟨x.l, x.r, 1 + max yl.h yr.h, x.b, x.n, x.p⟩ := ⟨_, rfl⟩
  have e : A.tput i x = A.put i y := by rw [hy, hyl, hyr]; rfl
  rw [e]
  have HY := Aside.mk hy
  clear hy
  rw [← hyl] at h1 HC1
  rw [← hyr] at h2 HC2
  clear e hyl hyr hT hH HL HR hbx
  obtain ⟨f0, f1, f2, f3, f4, f5⟩ := ST.out.facts
  have z2 := ST.out.fr 2
  unfold Nd.V
  go_enter Tryz.func233, Tryz.ntmps233
  go_upto_region 1 with fail
  obtain ⟨W1, hW⟩ : ∃ W1, W1 = w.alloc (.cells #[.int .u32 x.l, .int .u32 x.r, .int .i64 x.h, .int .i64 x.b, .int .i64 x.n, .int .i64 x.p] 221) := ⟨_, rfl⟩
  rw [← hW] at ST f0 f1 f2 f3 f4 f5 z2 ⊢
  clear hW
  replace ST := Aside.mk (ST.out.below (Below.refl _ W1).drew)
  go_region_held3 (fun W' => W'.cell? ⟨w.heap.size, 0, none⟩ = some (.int .u32 x.l) ∧ W'.cell? ⟨w.heap.size, 1, none⟩ = some (.int .u32 x.r)) (first | (with_reducible exact ⟨f0, f1⟩) | (with_reducible exact keep2 f0 f1 _) | (go_keep; done)) (first | (go_at_call 239; (with_reducible refine (HC1.out _ ST.out.tr).mono ?_); rintro e w1 ⟨rfl, hb⟩; have ST1 := Aside.mk (ST.out.below hb); clear hb f0 f1 f2 f3 f4 f5 z2 ST; have ST := ST1; clear ST1; obtain ⟨f0, f1, f2, f3, f4, f5⟩ := ST.out.facts; have z2 := ST.out.fr 2) | (go_at_call 239; (with_reducible refine (HC2.out _ ST.out.tr).mono ?_); rintro e w1 ⟨rfl, hb⟩; have ST1 := Aside.mk (ST.out.below hb); clear hb f0 f1 f2 f3 f4 f5 z2 ST; have ST := ST1; clear ST1; obtain ⟨f0, f1, f2, f3, f4, f5⟩ := ST.out.facts; have z2 := ST.out.fr 2))
  all_goals
    rename_i hh
    clear hh
    rw [wmax h1 h2]
    generalize (if yl.h < yr.h then yr.h else yl.h) = dd
    have ST1 := Aside.mk (ST.out.put 2 (.int .i64 (1 + max yl.h yr.h)) y (by rw [HY.out]; rfl))
    clear f0 f1 f2 f3 f4 f5 z2 ST
    have ST := ST1
    clear ST1
    generalize World.setCell _ _ _ = W2 at ST ⊢
    have STd := Aside.mk (ST.out.below (Below.refl _ W2).drew)
    obtain ⟨f0, f1, f2, f3, f4, f5⟩ := ST.out.facts
    obtain ⟨c0, -, -⟩ := ST.out.tr.cells
    have HP := Aside.mk (aput_ok W2.drew a g cap A STd.out.tr.ar i hi y)
    unfold Nd.V at HP
    go_upto_region 2 with fail
    have n1 : t ≠ g := ST.out.tr.ng
    have n2 : w.heap.size ≠ g := Nat.ne_of_gt ST.out.ltg
    go_region_held3 (fun W' => W'.cell? ⟨t, 0, none⟩ = some (.pointer (some ⟨a, 0, none⟩)) ∧ W'.cell? ⟨w.heap.size, 0, none⟩ = some (.int .u32 y.l) ∧ W'.cell? ⟨w.heap.size, 1, none⟩ = some (.int .u32 y.r) ∧ W'.cell? ⟨w.heap.size, 2, none⟩ = some (.int .i64 y.h) ∧ W'.cell? ⟨w.heap.size, 3, none⟩ = some (.int .i64 y.b) ∧ W'.cell? ⟨w.heap.size, 4, none⟩ = some (.int .i64 y.n) ∧ W'.cell? ⟨w.heap.size, 5, none⟩ = some (.int .i64 y.p)) (first | (with_reducible exact ⟨c0, f0, f1, f2, f3, f4, f5⟩) | (simp only [World.cell?_drew]; with_reducible exact ⟨c0, f0, f1, f2, f3, f4, f5⟩) | (with_reducible exact ⟨hm.cell c0 n1, hm.cell f0 n2, hm.cell f1 n2, hm.cell f2 n2, hm.cell f3 n2, hm.cell f4 n2, hm.cell f5 n2⟩)) ((go_at_call 240; (with_reducible refine HP.out.mono ?_); rintro e w3 ⟨er, rfl, hm', ha⟩; have hm := (ModB.of_below (Below.refl _ W2).drew (· = g)).trans hm'; clear hm'))
    rename_i hh
    clear hh f0 f1 f2 f3 f4 f5 c0
    have HM := Aside.mk (show ModB (· = g) w w3 from (ModB.of_below ST.out.bel _).trans hm)
    have HT := Aside.mk (show TreeAt w3 t a g cap (A.put i y) root len from ⟨by rw [hm.block t ST.out.tr.ltt n1]; exact ST.out.tr.obj, ha, ST.out.tr.na, ST.out.tr.ng⟩)
    clear hm ha
    go_wp2_with fail
    go_ret
    exact ⟨rfl, HM.out, HT.out⟩
end Lo
end Go.Proofs.YtjmhkcfdmcjilaaGreat
set_option linter.unusedVariables false
set_option linter.unusedSimpArgs false
namespace Go.Proofs.YtjmhkcfdmcjilaaGreat
namespace Lo
open Go.RowKit Ai Fi

/-- A node in a box that was made since w. -/
structure Bx (w W : World) (b : Nat) (x : Nd) : Prop where
  box : W.heap[b]? = some (.cells #[.int .u32 x.l, .int .u32 x.r, .int .i64 x.h, .int .i64 x.b, .int .i64 x.n, .int .i64 x.p] 221 (0, 0))
  hb : w.heap.size ≤ b
theorem Bx.lt {w W : World} {b : Nat} {x : Nd} (h : Bx w W b x) : b < W.heap.size := (Array.getElem?_eq_some_iff.1 h.box).1
theorem Bx.below {w W W' : World} {b : Nat} {x : Nd} (h : Bx w W b x) (hb : Below W.heap.size W W') : Bx w W' b x := ⟨by rw [hb.block b h.lt]; exact h.box, h.hb⟩
theorem Bx.modB {w W W' : World} {b : Nat} {x : Nd} {g : Nat} (h : Bx w W b x) (hm : ModB (· = g) W W') (hg : g < w.heap.size) : Bx w W' b x :=
  ⟨by rw [hm.block b h.lt (by have := h.hb; omega)]; exact h.box, h.hb⟩
theorem Bx.new {w : World} (W : World) (x : Nd) (hb : w.heap.size ≤ W.heap.size) : Bx w (W.alloc (.cells #[.int .u32 x.l, .int .u32 x.r, .int .i64 x.h, .int .i64 x.b, .int .i64 x.n, .int .i64 x.p] 221)) W.heap.size x := ⟨heap_alloc_new W _, hb⟩
theorem Bx.alloc {w W : World} {b : Nat} {x : Nd} (h : Bx w W b x) (o : Obj) : Bx w (W.alloc o) b x := h.below ((Below.refl _ W).alloc (Nat.le_refl _) o)
theorem Bx.other {w W : World} {b : Nat} {x : Nd} (h : Bx w W b x) {c : Nat} (j : Nat) (v : Value) (hc : b ≠ c) : Bx w (W.setCell ⟨c, j, none⟩ v) b x := ⟨(heap_setCell_other W ⟨c, j, none⟩ b v hc).trans h.box, h.hb⟩
theorem Bx.put {w W : World} {b : Nat} {x : Nd} (h : Bx w W b x) (j : Nat) (v : Value) (y : Nd)
    (hy : #[Value.int .u32 x.l, .int .u32 x.r, .int .i64 x.h, .int .i64 x.b, .int .i64 x.n, .int .i64 x.p].setIfInBounds j v = #[.int .u32 y.l, .int .u32 y.r, .int .i64 y.h, .int .i64 y.b, .int .i64 y.n, .int .i64 y.p]) :
    Bx w (W.setCell ⟨b, j, none⟩ v) b y := ⟨by rw [heap_setCell_same W b j _ 221 _ h.box, hy], h.hb⟩
theorem Bx.facts {w W : World} {b : Nat} {x : Nd} (h : Bx w W b x) :
    W.cell? ⟨b, 0, none⟩ = some (.int .u32 x.l) ∧ W.cell? ⟨b, 1, none⟩ = some (.int .u32 x.r) ∧ W.cell? ⟨b, 2, none⟩ = some (.int .i64 x.h) ∧ W.cell? ⟨b, 3, none⟩ = some (.int .i64 x.b) ∧ W.cell? ⟨b, 4, none⟩ = some (.int .i64 x.n) ∧ W.cell? ⟨b, 5, none⟩ = some (.int .i64 x.p) ∧
    ∀ j, W.frozen? ⟨b, j, none⟩ = false :=
  ⟨by rw [cell_of_row _ _ _ _ _ _ h.box]; rfl, by rw [cell_of_row _ _ _ _ _ _ h.box]; rfl, by rw [cell_of_row _ _ _ _ _ _ h.box]; rfl, by rw [cell_of_row _ _ _ _ _ _ h.box]; rfl, by rw [cell_of_row _ _ _ _ _ _ h.box]; rfl, by rw [cell_of_row _ _ _ _ _ _ h.box]; rfl, fun j => by simp [World.frozen?, h.box]⟩

/-- A tree that was there at w, and whose nodes may have been set since. -/
structure Tw (w W : World) (t a g cap : Nat) (A : Ar) (root : Nat) (len : Int) : Prop where
  tr : TreeAt W t a g cap A root len
  mod : ModB (· = g) w W
  ltt : t < w.heap.size
  lta : a < w.heap.size
  ltg : g < w.heap.size
theorem Tw.start {w : World} {t a g cap : Nat} {A : Ar} {root : Nat} {len : Int} (h : TreeAt w t a g cap A root len) : Tw w w t a g cap A root len := ⟨h, ModB.refl _ w, h.ltt, h.ar.lta, h.ar.ltg⟩
theorem Tw.below {w W W' : World} {t a g cap : Nat} {A : Ar} {root : Nat} {len : Int} (h : Tw w W t a g cap A root len) (hb : Below W.heap.size W W') : Tw w W' t a g cap A root len := ⟨h.tr.below hb, h.mod.below1 hb, h.ltt, h.lta, h.ltg⟩
theorem Tw.alloc {w W : World} {t a g cap : Nat} {A : Ar} {root : Nat} {len : Int} (h : Tw w W t a g cap A root len) (o : Obj) : Tw w (W.alloc o) t a g cap A root len := h.below ((Below.refl _ W).alloc (Nat.le_refl _) o)
theorem Tw.step {w W W' : World} {t a g cap : Nat} {A A' : Ar} {root : Nat} {len : Int} (h : Tw w W t a g cap A root len) (hm : ModB (· = g) W W') (ht : TreeAt W' t a g cap A' root len) : Tw w W' t a g cap A' root len := ⟨ht, h.mod.trans hm, h.ltt, h.lta, h.ltg⟩
theorem Tw.set {w W : World} {t a g cap : Nat} {A : Ar} {root : Nat} {len : Int} (h : Tw w W t a g cap A root len) {b : Nat} (hb : w.heap.size ≤ b) (j : Nat) (v : Value) : Tw w (W.setCell ⟨b, j, none⟩ v) t a g cap A root len := by
  have o : ∀ k, k < w.heap.size → (W.setCell ⟨b, j, none⟩ v).heap[k]? = W.heap[k]? := fun k hk => heap_setCell_other W ⟨b, j, none⟩ k v (by show k ≠ b; omega)
  refine ⟨h.tr.same (o t h.ltt) (o a h.lta) (o g h.ltg), ?_, h.ltt, h.lta, h.ltg⟩
  have hm := h.mod
  exact ⟨hm.os, hm.tape, hm.output, by simpa [World.setCell] using hm.size, fun k hk hS => (o k hk).trans (hm.block k hk hS)⟩

def TurnPost (w : World) (t a g cap : Nat) (A : Ar) (root : Nat) (len : Int) (u : Nat) (e : Ending) (w' : World) : Prop := e = .returned (.int .u32 u) ∧ Tw w w' t a g cap A root len

theorem get_fit {A : Ar} (h : ∀ j, (A.get j).l < 4294967296 ∧ (A.get j).r < 4294967296) {i : Nat} {n : Nd} (hl : n.l < 4294967296) (hr : n.r < 4294967296) : ∀ j, ((A.tput i n).get j).l < 4294967296 ∧ ((A.tput i n).get j).r < 4294967296 := by
  intro j
  by_cases hj : j = i
  · subst hj
    by_cases hh : A.has j = true
    · rw [Ar.tput, put_get hh]; exact ⟨hl, hr⟩
    · have h1 : (A.tput j n) = A := by simp [Ar.tput, Ar.put, hh]
      rw [h1]; exact h j
  · rw [Ar.tput, (put_kept A i _).get (by simpa using hj)]
    exact h j

set_option maxHeartbeats 4000000 in
set_option maxRecDepth 100000 in
theorem tright_ok (w : World) (t a g cap : Nat) (A : Ar) (root : Nat) (len : Int) (hT : TreeAt w t a g cap A root len) (i : Nat) (hi : i < 4294967296) (hL : LB A) (k : Int) (hk : k ≤ 90000) (hH : HB A k) :
    Calls Tryz.prog 243 #[.pointer (some ⟨t, 0, none⟩), .int .u32 i] w (TurnPost w t a g cap (A.tright i) root len (A.get i).l) := by
  have TW := Aside.mk (Tw.start hT)
  have HG := Aside.mk (fun (W : World) (j : Nat) (hj : j < 4294967296) (h : TreeAt W t a g cap A root len) => get_ok W t a g cap A root len h j hj)
  obtain ⟨n, hn⟩ : ∃ n, n = A.get i := ⟨_, rfl⟩
  obtain ⟨m, hm⟩ : ∃ m, m = A.get n.l := ⟨_, rfl⟩
  have hnl : n.l < 4294967296 ∧ n.r < 4294967296 := by rw [hn]; exact hL i
  have hml : m.l < 4294967296 ∧ m.r < 4294967296 := by rw [hm]; exact hL _
  obtain ⟨n2, hn2⟩ : ∃ n2 : Nd, n2 = ⟨m.r, n.r, n.h, n.b, n.n, n.p⟩ := ⟨_, rfl⟩
  obtain ⟨m2, hm2⟩ : ∃ m2 : Nd, m2 = ⟨m.l, i, m.h, m.b, m.n, m.p⟩ := ⟨_, rfl⟩
  have hnl2 : n2.l < 4294967296 ∧ n2.r < 4294967296 := by rw [hn2]; exact ⟨hml.2, hnl.2⟩
  have hml2 : m2.l < 4294967296 ∧ m2.r < 4294967296 := by rw [hm2]; exact ⟨hml.1, hi⟩
  have e : A.tright i = (A.tput i n2).tput n.l m2 := by simp only [Ar.tright, ← hn, ← hm, ← hn2, ← hm2]
  rw [e, ← hn]
  have HP1 := Aside.mk (fun (W : World) (h : TreeAt W t a g cap A root len) => tput_ok W t a g cap A root len h i hi n2 hnl2.1 hnl2.2 k (by omega) hH)
  have HP2 := Aside.mk (fun (W : World) (h : TreeAt W t a g cap (A.tput i n2) root len) => tput_ok W t a g cap (A.tput i n2) root len h n.l hnl.1 m2 hml2.1 hml2.2 (k + 1) (by omega) (tput_hb hH))
  have HN := Aside.mk hn
  have HM := Aside.mk hm
  have HN2 := Aside.mk hn2
  have HM2 := Aside.mk hm2
  unfold Nd.V at HP1 HP2
  clear e hT hH hL hn hm hn2 hm2
  generalize A.tput i n2 = A2 at HP1 HP2 ⊢
  go_enter Tryz.func243, Tryz.ntmps243
  go_upto_region 2 with (go_at_call 227; go_loud (refine (HG.out _ i hi TW.out.tr).mono ?_; rintro e w1 ⟨rfl, hb⟩; have TW1 := Aside.mk (TW.out.below hb); clear TW hb; have TW := TW1; clear TW1))
  rw [← HN.out]
  have B5 := Aside.mk (Bx.new (w := w) w1 n TW.out.mod.size)
  replace TW := Aside.mk (TW.out.alloc (.cells #[.int .u32 n.l, .int .u32 n.r, .int .i64 n.h, .int .i64 n.b, .int .i64 n.n, .int .i64 n.p] 221))
  obtain ⟨b5, hb5⟩ : ∃ b, b = w1.heap.size := ⟨_, rfl⟩
  rw [← hb5] at B5 ⊢
  clear hb5
  generalize World.alloc w1 _ = w2 at TW B5 ⊢
  obtain ⟨f0, f1, f2, f3, f4, f5, fz⟩ := B5.out.facts
  go_upto_region 4 with (go_at_call 227; go_loud (refine (HG.out _ n.l hnl.1 TW.out.tr).mono ?_; rintro e w3 ⟨rfl, hb⟩; have TW1 := Aside.mk (TW.out.below hb); have B51 := Aside.mk (B5.out.below hb); clear TW B5 hb f0 f1 f2 f3 f4 f5 fz; have TW := TW1; have B5 := B51; clear TW1 B51))
  rw [← HM.out]
  have B7 := Aside.mk (Bx.new (w := w) w3 m TW.out.mod.size)
  have hne : b5 ≠ w3.heap.size := Nat.ne_of_lt B5.out.lt
  replace TW := Aside.mk (TW.out.alloc (.cells #[.int .u32 m.l, .int .u32 m.r, .int .i64 m.h, .int .i64 m.b, .int .i64 m.n, .int .i64 m.p] 221))
  replace B5 := Aside.mk (B5.out.alloc (.cells #[.int .u32 m.l, .int .u32 m.r, .int .i64 m.h, .int .i64 m.b, .int .i64 m.n, .int .i64 m.p] 221))
  obtain ⟨b7, hb7⟩ : ∃ b, b = w3.heap.size := ⟨_, rfl⟩
  rw [← hb7] at B7 hne ⊢
  clear hb7
  generalize World.alloc w3 _ = w4 at TW B5 B7 ⊢
  obtain ⟨f0, f1, f2, f3, f4, f5, fz⟩ := B5.out.facts
  obtain ⟨m0, m1, m2', m3, m4, m5, mz⟩ := B7.out.facts
  go_upto_region 5 with fail
  clear f0 f1 f2 f3 f4 f5 fz m0 m1 m2' m3 m4 m5 mz
  replace TW := Aside.mk (TW.out.set B5.out.hb 0 (.int .u32 m.r))
  replace B7 := Aside.mk (B7.out.other 0 (.int .u32 m.r) (Ne.symm hne))
  replace B5 := Aside.mk (B5.out.put 0 (.int .u32 m.r) n2 (by rw [HN2.out]; rfl))
  generalize World.setCell _ _ _ = w5 at TW B5 B7 ⊢
  obtain ⟨f0, f1, f2, f3, f4, f5, fz⟩ := B5.out.facts
  obtain ⟨m0, m1, m2', m3, m4, m5, mz⟩ := B7.out.facts
  go_upto_region 6 with (go_at_call 233; go_loud (refine (HP1.out _ TW.out.tr).mono ?_; rintro e w6 ⟨rfl, hm, ht⟩; have TW1 := Aside.mk (TW.out.step hm ht); have B71 := Aside.mk (B7.out.modB hm TW.out.ltg); clear TW B5 B7 hm ht f0 f1 f2 f3 f4 f5 fz m0 m1 m2' m3 m4 m5 mz; have TW := TW1; have B7 := B71; clear TW1 B71; obtain ⟨m0, m1, m2', m3, m4, m5, mz⟩ := B7.out.facts))
  clear m0 m1 m2' m3 m4 m5 mz
  replace TW := Aside.mk (TW.out.set B7.out.hb 1 (.int .u32 i))
  replace B7 := Aside.mk (B7.out.put 1 (.int .u32 i) m2 (by rw [HM2.out]; rfl))
  generalize World.setCell _ _ _ = w7 at TW B7 ⊢
  obtain ⟨m0, m1, m2', m3, m4, m5, mz⟩ := B7.out.facts
  go_wp2_with (go_at_call 233; go_loud (refine (HP2.out _ TW.out.tr).mono ?_; rintro e w8 ⟨rfl, hm, ht⟩; have TW1 := Aside.mk (TW.out.step hm ht); clear TW B7 hm ht m0 m1 m2' m3 m4 m5 mz; have TW := TW1; clear TW1))
  go_ret
  exact ⟨rfl, TW.out⟩

set_option maxHeartbeats 4000000 in
set_option maxRecDepth 100000 in
theorem tleft_ok (w : World) (t a g cap : Nat) (A : Ar) (root : Nat) (len : Int) (hT : TreeAt w t a g cap A root len) (i : Nat) (hi : i < 4294967296) (hL : LB A) (k : Int) (hk : k ≤ 90000) (hH : HB A k) :
    Calls Tryz.prog 242 #[.pointer (some ⟨t, 0, none⟩), .int .u32 i] w (TurnPost w t a g cap (A.tleft i) root len (A.get i).r) := by
  have TW := Aside.mk (Tw.start hT)
  have HG := Aside.mk (fun (W : World) (j : Nat) (hj : j < 4294967296) (h : TreeAt W t a g cap A root len) => get_ok W t a g cap A root len h j hj)
  obtain ⟨n, hn⟩ : ∃ n, n = A.get i := ⟨_, rfl⟩
  obtain ⟨m, hm⟩ : ∃ m, m = A.get n.r := ⟨_, rfl⟩
  have hnl : n.l < 4294967296 ∧ n.r < 4294967296 := by rw [hn]; exact hL i
  have hml : m.l < 4294967296 ∧ m.r < 4294967296 := by rw [hm]; exact hL _
  obtain ⟨n2, hn2⟩ : ∃ n2 : Nd, n2 = ⟨n.l, m.l, n.h, n.b, n.n, n.p⟩ := ⟨_, rfl⟩
  obtain ⟨m2, hm2⟩ : ∃ m2 : Nd, m2 = ⟨i, m.r, m.h, m.b, m.n, m.p⟩ := ⟨_, rfl⟩
  have hnl2 : n2.l < 4294967296 ∧ n2.r < 4294967296 := by rw [hn2]; exact ⟨hnl.1, hml.1⟩
  have hml2 : m2.l < 4294967296 ∧ m2.r < 4294967296 := by rw [hm2]; exact ⟨hi, hml.2⟩
  have e : A.tleft i = (A.tput i n2).tput n.r m2 := by simp only [Ar.tleft, ← hn, ← hm, ← hn2, ← hm2]
  rw [e, ← hn]
  have HP1 := Aside.mk (fun (W : World) (h : TreeAt W t a g cap A root len) => tput_ok W t a g cap A root len h i hi n2 hnl2.1 hnl2.2 k (by omega) hH)
  have HP2 := Aside.mk (fun (W : World) (h : TreeAt W t a g cap (A.tput i n2) root len) => tput_ok W t a g cap (A.tput i n2) root len h n.r hnl.2 m2 hml2.1 hml2.2 (k + 1) (by omega) (tput_hb hH))
  have HN := Aside.mk hn
  have HM := Aside.mk hm
  have HN2 := Aside.mk hn2
  have HM2 := Aside.mk hm2
  unfold Nd.V at HP1 HP2
  clear e hT hH hL hn hm hn2 hm2
  generalize A.tput i n2 = A2 at HP1 HP2 ⊢
  go_enter Tryz.func242, Tryz.ntmps242
  go_upto_region 2 with (go_at_call 227; go_loud (refine (HG.out _ i hi TW.out.tr).mono ?_; rintro e w1 ⟨rfl, hb⟩; have TW1 := Aside.mk (TW.out.below hb); clear TW hb; have TW := TW1; clear TW1))
  rw [← HN.out]
  have B5 := Aside.mk (Bx.new (w := w) w1 n TW.out.mod.size)
  replace TW := Aside.mk (TW.out.alloc (.cells #[.int .u32 n.l, .int .u32 n.r, .int .i64 n.h, .int .i64 n.b, .int .i64 n.n, .int .i64 n.p] 221))
  obtain ⟨b5, hb5⟩ : ∃ b, b = w1.heap.size := ⟨_, rfl⟩
  rw [← hb5] at B5 ⊢
  clear hb5
  generalize World.alloc w1 _ = w2 at TW B5 ⊢
  obtain ⟨f0, f1, f2, f3, f4, f5, fz⟩ := B5.out.facts
  go_upto_region 4 with (go_at_call 227; go_loud (refine (HG.out _ n.r hnl.2 TW.out.tr).mono ?_; rintro e w3 ⟨rfl, hb⟩; have TW1 := Aside.mk (TW.out.below hb); have B51 := Aside.mk (B5.out.below hb); clear TW B5 hb f0 f1 f2 f3 f4 f5 fz; have TW := TW1; have B5 := B51; clear TW1 B51))
  rw [← HM.out]
  have B7 := Aside.mk (Bx.new (w := w) w3 m TW.out.mod.size)
  have hne : b5 ≠ w3.heap.size := Nat.ne_of_lt B5.out.lt
  replace TW := Aside.mk (TW.out.alloc (.cells #[.int .u32 m.l, .int .u32 m.r, .int .i64 m.h, .int .i64 m.b, .int .i64 m.n, .int .i64 m.p] 221))
  replace B5 := Aside.mk (B5.out.alloc (.cells #[.int .u32 m.l, .int .u32 m.r, .int .i64 m.h, .int .i64 m.b, .int .i64 m.n, .int .i64 m.p] 221))
  obtain ⟨b7, hb7⟩ : ∃ b, b = w3.heap.size := ⟨_, rfl⟩
  rw [← hb7] at B7 hne ⊢
  clear hb7
  generalize World.alloc w3 _ = w4 at TW B5 B7 ⊢
  obtain ⟨f0, f1, f2, f3, f4, f5, fz⟩ := B5.out.facts
  obtain ⟨m0, m1, m2', m3, m4, m5, mz⟩ := B7.out.facts
  go_upto_region 5 with fail
  clear f0 f1 f2 f3 f4 f5 fz m0 m1 m2' m3 m4 m5 mz
  replace TW := Aside.mk (TW.out.set B5.out.hb 1 (.int .u32 m.l))
  replace B7 := Aside.mk (B7.out.other 1 (.int .u32 m.l) (Ne.symm hne))
  replace B5 := Aside.mk (B5.out.put 1 (.int .u32 m.l) n2 (by rw [HN2.out]; rfl))
  generalize World.setCell _ _ _ = w5 at TW B5 B7 ⊢
  obtain ⟨f0, f1, f2, f3, f4, f5, fz⟩ := B5.out.facts
  obtain ⟨m0, m1, m2', m3, m4, m5, mz⟩ := B7.out.facts
  go_upto_region 6 with (go_at_call 233; go_loud (refine (HP1.out _ TW.out.tr).mono ?_; rintro e w6 ⟨rfl, hm, ht⟩; have TW1 := Aside.mk (TW.out.step hm ht); have B71 := Aside.mk (B7.out.modB hm TW.out.ltg); clear TW B5 B7 hm ht f0 f1 f2 f3 f4 f5 fz m0 m1 m2' m3 m4 m5 mz; have TW := TW1; have B7 := B71; clear TW1 B71; obtain ⟨m0, m1, m2', m3, m4, m5, mz⟩ := B7.out.facts))
  clear m0 m1 m2' m3 m4 m5 mz
  replace TW := Aside.mk (TW.out.set B7.out.hb 0 (.int .u32 i))
  replace B7 := Aside.mk (B7.out.put 0 (.int .u32 i) m2 (by rw [HM2.out]; rfl))
  generalize World.setCell _ _ _ = w7 at TW B7 ⊢
  obtain ⟨m0, m1, m2', m3, m4, m5, mz⟩ := B7.out.facts
  go_wp2_with (go_at_call 233; go_loud (refine (HP2.out _ TW.out.tr).mono ?_; rintro e w8 ⟨rfl, hm, ht⟩; have TW1 := Aside.mk (TW.out.step hm ht); clear TW B7 hm ht m0 m1 m2' m3 m4 m5 mz; have TW := TW1; clear TW1))
  go_ret
  exact ⟨rfl, TW.out⟩

end Lo
end Go.Proofs.YtjmhkcfdmcjilaaGreat
set_option linter.unusedVariables false
set_option linter.unusedSimpArgs false
namespace Go.Proofs.YtjmhkcfdmcjilaaGreat
namespace Lo
open Go.RowKit Ai Fi

theorem tput_lb {A : Ar} (h : LB A) {i : Nat} {n : Nd} (hl : n.l < 4294967296) (hr : n.r < 4294967296) : LB (A.tput i n) := get_fit h hl hr
theorem tright_lb {A : Ar} (h : LB A) {i : Nat} (hi : i < 4294967296) : LB (A.tright i) :=
  tput_lb (n := { A.get (A.get i).l with r := i }) (tput_lb (n := { A.get i with l := (A.get (A.get i).l).r }) h (h (A.get i).l).2 (h i).2) (h (A.get i).l).1 hi
theorem tleft_lb {A : Ar} (h : LB A) {i : Nat} (hi : i < 4294967296) : LB (A.tleft i) :=
  tput_lb (n := { A.get (A.get i).r with l := i }) (tput_lb (n := { A.get i with r := (A.get (A.get i).r).l }) h (h i).1 (h (A.get i).r).1) hi (h (A.get i).r).2
theorem wsub {a b : Int} (h1 : 0 ≤ a ∧ a ≤ 100000) (h2 : 0 ≤ b ∧ b ≤ 100000) : IntKind.i64.wrap (a - b) = a - b := by
  rw [IntKind.wrap_i64]
  omega

def BalPost (w : World) (t a g cap : Nat) (X : Ar × Nat) (root : Nat) (len : Int) (e : Ending) (w' : World) : Prop := e = .returned (.int .u32 X.2) ∧ Tw w w' t a g cap X.1 root len

set_option maxHeartbeats 4000000 in
set_option maxRecDepth 100000 in
theorem bal_ok (w : World) (t a g cap : Nat) (A : Ar) (root : Nat) (len : Int) (hT : TreeAt w t a g cap A root len) (i : Nat) (hi : i < 4294967296) (n : Nd) (hnl : n.l < 4294967296 ∧ n.r < 4294967296) (hL0 : LB A) (k : Int) (hk : k ≤ 80000) (hH0 : HB A k) :
    Calls Tryz.prog 236 #[.pointer (some ⟨t, 0, none⟩), .int .u32 i, n.V] w (BalPost w t a g cap (A.bal i n) root len) := by
  have TW := Aside.mk (Tw.start hT)
  have HP1 := Aside.mk (fun (W : World) (h : TreeAt W t a g cap A root len) => tput_ok W t a g cap A root len h i hi n hnl.1 hnl.2 k (by omega) hH0)
  have hL : LB (A.tput i n) := tput_lb hL0 hnl.1 hnl.2
  have hH : HB (A.tput i n) (k + 1) := tput_hb hH0
  have e0 : A.bal i n = if ((A.tput i n).get n.l).h - ((A.tput i n).get n.r).h > 1 then
      (if ((A.tput i n).get ((A.tput i n).get n.l).l).h < ((A.tput i n).get ((A.tput i n).get n.l).r).h then
        (((((A.tput i n).tleft n.l).tput i ⟨((A.tput i n).get n.l).r, n.r, n.h, n.b, n.n, n.p⟩).tright i), ((((A.tput i n).tleft n.l).tput i ⟨((A.tput i n).get n.l).r, n.r, n.h, n.b, n.n, n.p⟩).get i).l)
      else ((A.tput i n).tright i, ((A.tput i n).get i).l))
    else if ((A.tput i n).get n.l).h - ((A.tput i n).get n.r).h < -1 then
      (if ((A.tput i n).get ((A.tput i n).get n.r).r).h < ((A.tput i n).get ((A.tput i n).get n.r).l).h then
        (((((A.tput i n).tright n.r).tput i ⟨n.l, ((A.tput i n).get n.r).l, n.h, n.b, n.n, n.p⟩).tleft i), ((((A.tput i n).tright n.r).tput i ⟨n.l, ((A.tput i n).get n.r).l, n.h, n.b, n.n, n.p⟩).get i).r)
      else ((A.tput i n).tleft i, ((A.tput i n).get i).r))
    else (A.tput i n, i) := rfl
  rw [e0]
  clear e0 hT hL0 hH0
  generalize A.tput i n = B at HP1 hL hH ⊢
  have HG := Aside.mk (fun (W : World) (j : Nat) (hj : j < 4294967296) (h : TreeAt W t a g cap B root len) => get_ok W t a g cap B root len h j hj)
  have HL := Aside.mk (fun (W : World) (h : TreeAt W t a g cap B root len) => height_ok W t a g cap B root len h n.l hnl.1)
  have HR := Aside.mk (fun (W : World) (h : TreeAt W t a g cap B root len) => height_ok W t a g cap B root len h n.r hnl.2)
  obtain ⟨yl, eyl⟩ : ∃ y, y = B.get n.l := ⟨_, rfl⟩
  obtain ⟨yr, eyr⟩ : ∃ y, y = B.get n.r := ⟨_, rfl⟩
  have hyl : yl.l < 4294967296 ∧ yl.r < 4294967296 := by rw [eyl]; exact hL _
  have hyr : yr.l < 4294967296 ∧ yr.r < 4294967296 := by rw [eyr]; exact hL _
  have bl : 0 ≤ yl.h ∧ yl.h ≤ 100000 := by rw [eyl]; have := hH n.l; omega
  have br : 0 ≤ yr.h ∧ yr.h ≤ 100000 := by rw [eyr]; have := hH n.r; omega
  have hw := wsub bl br
  rw [← eyl] at HL
  rw [← eyr] at HR
  rw [← eyl, ← eyr]
  unfold Nd.V at HP1 ⊢
  have YL := Aside.mk eyl
  have YR := Aside.mk eyr
  have HHB := Aside.mk hH
  have HLB := Aside.mk hL
  clear eyl eyr hL hH
  by_cases hd : yl.h - yr.h > 1
  · rw [if_pos hd]
    have HA := Aside.mk (fun (W : World) (h : TreeAt W t a g cap B root len) => height_ok W t a g cap B root len h yl.l hyl.1)
    have HC := Aside.mk (fun (W : World) (h : TreeAt W t a g cap B root len) => height_ok W t a g cap B root len h yl.r hyl.2)
    obtain ⟨z1, e1⟩ : ∃ z, z = B.get yl.l := ⟨_, rfl⟩
    obtain ⟨z2, e2⟩ : ∃ z, z = B.get yl.r := ⟨_, rfl⟩
    rw [← e1] at HA ⊢
    rw [← e2] at HC ⊢
    clear e1 e2
    by_cases hh2 : z1.h < z2.h
    · rw [if_pos hh2]
      have HT1 := Aside.mk (fun (W : World) (h : TreeAt W t a g cap B root len) => tleft_ok W t a g cap B root len h n.l hnl.1 HLB.out (k + 1) (by omega) HHB.out)
      obtain ⟨n2, hn2⟩ : ∃ n2 : Nd, n2 = ⟨yl.r, n.r, n.h, n.b, n.n, n.p⟩ := ⟨_, rfl⟩
      have hnl2 : n2.l < 4294967296 ∧ n2.r < 4294967296 := by rw [hn2]; exact ⟨hyl.2, hnl.2⟩
      have HP2 := Aside.mk (fun (W : World) (h : TreeAt W t a g cap (B.tleft n.l) root len) => tput_ok W t a g cap (B.tleft n.l) root len h i hi n2 hnl2.1 hnl2.2 (k + 1 + 1 + 1) (by omega) (tleft_hb HHB.out))
      have HT2 := Aside.mk (fun (W : World) (h : TreeAt W t a g cap ((B.tleft n.l).tput i n2) root len) => tright_ok W t a g cap _ root len h i hi (tput_lb (tleft_lb HLB.out hnl.1) hnl2.1 hnl2.2) (k + 1 + 1 + 1 + 1) (by omega) (tput_hb (tleft_hb HHB.out)))
      rw [← hn2]
      have HN2 := Aside.mk hn2
      clear hn2
      generalize B.tleft n.l = B1 at HT1 HP2 HT2 ⊢
      generalize B1.tput i n2 = B2 at HP2 HT2 ⊢
      unfold Nd.V at HP2
      go_enter Tryz.func236, Tryz.ntmps236
      go_upto_region 1 with fail
      have B5 := Aside.mk (Bx.new (w := w) w n (Nat.le_refl _))
      replace TW := Aside.mk (TW.out.alloc (.cells #[.int .u32 n.l, .int .u32 n.r, .int .i64 n.h, .int .i64 n.b, .int .i64 n.n, .int .i64 n.p] 221))
      obtain ⟨b5, hb5⟩ : ∃ b, b = w.heap.size := ⟨_, rfl⟩
      rw [← hb5] at B5 ⊢
      clear hb5
      generalize World.alloc w _ = w2 at TW B5 ⊢
      obtain ⟨f0, f1, f2, f3, f4, f5, fz⟩ := B5.out.facts
      go_upto_region 2 with (go_at_call 233; go_loud (refine (HP1.out _ TW.out.tr).mono ?_; rintro e w3 ⟨rfl, hm, ht⟩; have TW1 := Aside.mk (TW.out.step hm ht); have B51 := Aside.mk (B5.out.modB hm TW.out.ltg); clear TW B5 hm ht f0 f1 f2 f3 f4 f5 fz; have TW := TW1; have B5 := B51; clear TW1 B51; obtain ⟨f0, f1, f2, f3, f4, f5, fz⟩ := B5.out.facts))
      replace TW := Aside.mk (TW.out.below (Below.refl _ w3).drew)
      replace B5 := Aside.mk (B5.out.below (Below.refl _ w3).drew)
      go_region_held3 (fun W' => W'.cell? ⟨b5, 0, none⟩ = some (.int .u32 n.l) ∧ W'.cell? ⟨b5, 1, none⟩ = some (.int .u32 n.r)) (first | (with_reducible exact ⟨f0, f1⟩) | (simp only [World.cell?_drew]; with_reducible exact ⟨f0, f1⟩)) (first | (go_at_call 239; (with_reducible refine (HL.out _ TW.out.tr).mono ?_); rintro e w1 ⟨rfl, hb⟩; have TW1 := Aside.mk (TW.out.below hb); have B51 := Aside.mk (B5.out.below hb); clear TW hb f0 f1 f2 f3 f4 f5 fz B5; have TW := TW1; have B5 := B51; clear TW1 B51; obtain ⟨f0, f1, f2, f3, f4, f5, fz⟩ := B5.out.facts) | (go_at_call 239; (with_reducible refine (HR.out _ TW.out.tr).mono ?_); rintro e w1 ⟨rfl, hb⟩; have TW1 := Aside.mk (TW.out.below hb); have B51 := Aside.mk (B5.out.below hb); clear TW hb f0 f1 f2 f3 f4 f5 fz B5; have TW := TW1; have B5 := B51; clear TW1 B51; obtain ⟨f0, f1, f2, f3, f4, f5, fz⟩ := B5.out.facts))
      rename_i hh
      clear hh
      go_upto_region 5 with (go_at_call 227; go_loud (refine (HG.out _ n.l hnl.1 TW.out.tr).mono ?_; rintro e w3 ⟨rfl, hb⟩; have TW1 := Aside.mk (TW.out.below hb); have B51 := Aside.mk (B5.out.below hb); clear TW B5 hb f0 f1 f2 f3 f4 f5 fz; have TW := TW1; have B5 := B51; clear TW1 B51))
      rw [← YL.out]
      have B8 := Aside.mk (Bx.new (w := w) w3 yl TW.out.mod.size)
      have hne : b5 ≠ w3.heap.size := Nat.ne_of_lt B5.out.lt
      replace TW := Aside.mk (TW.out.alloc (.cells #[.int .u32 yl.l, .int .u32 yl.r, .int .i64 yl.h, .int .i64 yl.b, .int .i64 yl.n, .int .i64 yl.p] 221))
      replace B5 := Aside.mk (B5.out.alloc (.cells #[.int .u32 yl.l, .int .u32 yl.r, .int .i64 yl.h, .int .i64 yl.b, .int .i64 yl.n, .int .i64 yl.p] 221))
      obtain ⟨b8, hb8⟩ : ∃ b, b = w3.heap.size := ⟨_, rfl⟩
      rw [← hb8] at B8 hne ⊢
      clear hb8
      generalize World.alloc w3 _ = w4 at TW B5 B8 ⊢
      obtain ⟨f0, f1, f2, f3, f4, f5, fz⟩ := B5.out.facts
      obtain ⟨m0, m1, -, -, -, -, -⟩ := B8.out.facts
      replace TW := Aside.mk (TW.out.below (Below.refl _ w4).drew)
      replace B5 := Aside.mk (B5.out.below (Below.refl _ w4).drew)
      replace B8 := Aside.mk (B8.out.below (Below.refl _ w4).drew)
      go_region_held3 (fun W' => W'.cell? ⟨b8, 0, none⟩ = some (.int .u32 yl.l) ∧ W'.cell? ⟨b8, 1, none⟩ = some (.int .u32 yl.r)) (first | (with_reducible exact ⟨m0, m1⟩) | (simp only [World.cell?_drew]; with_reducible exact ⟨m0, m1⟩)) (first | (go_at_call 239; (with_reducible refine (HA.out _ TW.out.tr).mono ?_); rintro e w1 ⟨rfl, hb⟩; have TW1 := Aside.mk (TW.out.below hb); have B51 := Aside.mk (B5.out.below hb); have B81 := Aside.mk (B8.out.below hb); clear TW hb f0 f1 f2 f3 f4 f5 fz B5 B8 m0 m1; have TW := TW1; have B5 := B51; have B8 := B81; clear TW1 B51 B81; obtain ⟨m0, m1, -, -, -, -, -⟩ := B8.out.facts; obtain ⟨f0, f1, f2, f3, f4, f5, fz⟩ := B5.out.facts) | (go_at_call 239; (with_reducible refine (HC.out _ TW.out.tr).mono ?_); rintro e w1 ⟨rfl, hb⟩; have TW1 := Aside.mk (TW.out.below hb); have B51 := Aside.mk (B5.out.below hb); have B81 := Aside.mk (B8.out.below hb); clear TW hb f0 f1 f2 f3 f4 f5 fz B5 B8 m0 m1; have TW := TW1; have B5 := B51; have B8 := B81; clear TW1 B51 B81; obtain ⟨m0, m1, -, -, -, -, -⟩ := B8.out.facts; obtain ⟨f0, f1, f2, f3, f4, f5, fz⟩ := B5.out.facts))
      rename_i hh
      clear hh m0 m1
      go_upto_region 7 with (go_at_call 242; go_loud (refine (HT1.out _ TW.out.tr).mono ?_; rintro e w5 ⟨rfl, tw⟩; have TW1 := Aside.mk (TW.out.step tw.mod tw.tr); have B51 := Aside.mk (B5.out.modB tw.mod TW.out.ltg); clear TW B5 B8 tw f0 f1 f2 f3 f4 f5 fz; have TW := TW1; have B5 := B51; clear TW1 B51; rw [← YL.out]; obtain ⟨f0, f1, f2, f3, f4, f5, fz⟩ := B5.out.facts))
      clear f0 f1 f2 f3 f4 f5 fz
      replace TW := Aside.mk (TW.out.set B5.out.hb 0 (.int .u32 yl.r))
      replace B5 := Aside.mk (B5.out.put 0 (.int .u32 yl.r) n2 (by rw [HN2.out]; rfl))
      generalize World.setCell _ _ _ = w6 at TW B5 ⊢
      obtain ⟨f0, f1, f2, f3, f4, f5, fz⟩ := B5.out.facts
      go_wp2_with (first | (go_at_call 233; go_loud (refine (HP2.out _ TW.out.tr).mono ?_; rintro e w7 ⟨rfl, hm, ht⟩; have TW1 := Aside.mk (TW.out.step hm ht); clear TW B5 hm ht f0 f1 f2 f3 f4 f5 fz; have TW := TW1; clear TW1)) | (go_at_call 243; go_loud (refine (HT2.out _ TW.out.tr).mono ?_; rintro e w8 ⟨rfl, tw⟩; have TW1 := Aside.mk (TW.out.step tw.mod tw.tr); clear TW tw; have TW := TW1; clear TW1)))
      go_ret
      exact ⟨rfl, TW.out⟩
    · rw [if_neg hh2]
      have HT0 := Aside.mk (fun (W : World) (h : TreeAt W t a g cap B root len) => tright_ok W t a g cap B root len h i hi HLB.out (k + 1) (by omega) HHB.out)
      go_enter Tryz.func236, Tryz.ntmps236
      go_upto_region 1 with fail
      have B5 := Aside.mk (Bx.new (w := w) w n (Nat.le_refl _))
      replace TW := Aside.mk (TW.out.alloc (.cells #[.int .u32 n.l, .int .u32 n.r, .int .i64 n.h, .int .i64 n.b, .int .i64 n.n, .int .i64 n.p] 221))
      obtain ⟨b5, hb5⟩ : ∃ b, b = w.heap.size := ⟨_, rfl⟩
      rw [← hb5] at B5 ⊢
      clear hb5
      generalize World.alloc w _ = w2 at TW B5 ⊢
      obtain ⟨f0, f1, f2, f3, f4, f5, fz⟩ := B5.out.facts
      go_upto_region 2 with (go_at_call 233; go_loud (refine (HP1.out _ TW.out.tr).mono ?_; rintro e w3 ⟨rfl, hm, ht⟩; have TW1 := Aside.mk (TW.out.step hm ht); have B51 := Aside.mk (B5.out.modB hm TW.out.ltg); clear TW B5 hm ht f0 f1 f2 f3 f4 f5 fz; have TW := TW1; have B5 := B51; clear TW1 B51; obtain ⟨f0, f1, f2, f3, f4, f5, fz⟩ := B5.out.facts))
      replace TW := Aside.mk (TW.out.below (Below.refl _ w3).drew)
      replace B5 := Aside.mk (B5.out.below (Below.refl _ w3).drew)
      go_region_held3 (fun W' => W'.cell? ⟨b5, 0, none⟩ = some (.int .u32 n.l) ∧ W'.cell? ⟨b5, 1, none⟩ = some (.int .u32 n.r)) (first | (with_reducible exact ⟨f0, f1⟩) | (simp only [World.cell?_drew]; with_reducible exact ⟨f0, f1⟩)) (first | (go_at_call 239; (with_reducible refine (HL.out _ TW.out.tr).mono ?_); rintro e w1 ⟨rfl, hb⟩; have TW1 := Aside.mk (TW.out.below hb); have B51 := Aside.mk (B5.out.below hb); clear TW hb f0 f1 f2 f3 f4 f5 fz B5; have TW := TW1; have B5 := B51; clear TW1 B51; obtain ⟨f0, f1, f2, f3, f4, f5, fz⟩ := B5.out.facts) | (go_at_call 239; (with_reducible refine (HR.out _ TW.out.tr).mono ?_); rintro e w1 ⟨rfl, hb⟩; have TW1 := Aside.mk (TW.out.below hb); have B51 := Aside.mk (B5.out.below hb); clear TW hb f0 f1 f2 f3 f4 f5 fz B5; have TW := TW1; have B5 := B51; clear TW1 B51; obtain ⟨f0, f1, f2, f3, f4, f5, fz⟩ := B5.out.facts))
      rename_i hh
      clear hh
      go_upto_region 5 with (go_at_call 227; go_loud (refine (HG.out _ n.l hnl.1 TW.out.tr).mono ?_; rintro e w3 ⟨rfl, hb⟩; have TW1 := Aside.mk (TW.out.below hb); have B51 := Aside.mk (B5.out.below hb); clear TW B5 hb f0 f1 f2 f3 f4 f5 fz; have TW := TW1; have B5 := B51; clear TW1 B51))
      rw [← YL.out]
      have B8 := Aside.mk (Bx.new (w := w) w3 yl TW.out.mod.size)
      have hne : b5 ≠ w3.heap.size := Nat.ne_of_lt B5.out.lt
      replace TW := Aside.mk (TW.out.alloc (.cells #[.int .u32 yl.l, .int .u32 yl.r, .int .i64 yl.h, .int .i64 yl.b, .int .i64 yl.n, .int .i64 yl.p] 221))
      replace B5 := Aside.mk (B5.out.alloc (.cells #[.int .u32 yl.l, .int .u32 yl.r, .int .i64 yl.h, .int .i64 yl.b, .int .i64 yl.n, .int .i64 yl.p] 221))
      obtain ⟨b8, hb8⟩ : ∃ b, b = w3.heap.size := ⟨_, rfl⟩
      rw [← hb8] at B8 hne ⊢
      clear hb8
      generalize World.alloc w3 _ = w4 at TW B5 B8 ⊢
      obtain ⟨f0, f1, f2, f3, f4, f5, fz⟩ := B5.out.facts
      obtain ⟨m0, m1, -, -, -, -, -⟩ := B8.out.facts
      replace TW := Aside.mk (TW.out.below (Below.refl _ w4).drew)
      replace B5 := Aside.mk (B5.out.below (Below.refl _ w4).drew)
      replace B8 := Aside.mk (B8.out.below (Below.refl _ w4).drew)
      go_region_held3 (fun W' => W'.cell? ⟨b8, 0, none⟩ = some (.int .u32 yl.l) ∧ W'.cell? ⟨b8, 1, none⟩ = some (.int .u32 yl.r)) (first | (with_reducible exact ⟨m0, m1⟩) | (simp only [World.cell?_drew]; with_reducible exact ⟨m0, m1⟩)) (first | (go_at_call 239; (with_reducible refine (HA.out _ TW.out.tr).mono ?_); rintro e w1 ⟨rfl, hb⟩; have TW1 := Aside.mk (TW.out.below hb); have B51 := Aside.mk (B5.out.below hb); have B81 := Aside.mk (B8.out.below hb); clear TW hb f0 f1 f2 f3 f4 f5 fz B5 B8 m0 m1; have TW := TW1; have B5 := B51; have B8 := B81; clear TW1 B51 B81; obtain ⟨m0, m1, -, -, -, -, -⟩ := B8.out.facts; obtain ⟨f0, f1, f2, f3, f4, f5, fz⟩ := B5.out.facts) | (go_at_call 239; (with_reducible refine (HC.out _ TW.out.tr).mono ?_); rintro e w1 ⟨rfl, hb⟩; have TW1 := Aside.mk (TW.out.below hb); have B51 := Aside.mk (B5.out.below hb); have B81 := Aside.mk (B8.out.below hb); clear TW hb f0 f1 f2 f3 f4 f5 fz B5 B8 m0 m1; have TW := TW1; have B5 := B51; have B8 := B81; clear TW1 B51 B81; obtain ⟨m0, m1, -, -, -, -, -⟩ := B8.out.facts; obtain ⟨f0, f1, f2, f3, f4, f5, fz⟩ := B5.out.facts))
      rename_i hh
      clear hh m0 m1
      go_wp2_with (go_at_call 243; go_loud (refine (HT0.out _ TW.out.tr).mono ?_; rintro e w8 ⟨rfl, tw⟩; have TW1 := Aside.mk (TW.out.step tw.mod tw.tr); clear TW tw; have TW := TW1; clear TW1))
      go_ret
      exact ⟨rfl, TW.out⟩
  · rw [if_neg hd]
    by_cases hd2 : yl.h - yr.h < -1
    · rw [if_pos hd2]
      have HA := Aside.mk (fun (W : World) (h : TreeAt W t a g cap B root len) => height_ok W t a g cap B root len h yr.l hyr.1)
      have HC := Aside.mk (fun (W : World) (h : TreeAt W t a g cap B root len) => height_ok W t a g cap B root len h yr.r hyr.2)
      obtain ⟨z1, e1⟩ : ∃ z, z = B.get yr.l := ⟨_, rfl⟩
      obtain ⟨z2, e2⟩ : ∃ z, z = B.get yr.r := ⟨_, rfl⟩
      rw [← e1] at HA ⊢
      rw [← e2] at HC ⊢
      clear e1 e2
      by_cases hh2 : z2.h < z1.h
      · rw [if_pos hh2]
        have HT1 := Aside.mk (fun (W : World) (h : TreeAt W t a g cap B root len) => tright_ok W t a g cap B root len h n.r hnl.2 HLB.out (k + 1) (by omega) HHB.out)
        obtain ⟨n2, hn2⟩ : ∃ n2 : Nd, n2 = ⟨n.l, yr.l, n.h, n.b, n.n, n.p⟩ := ⟨_, rfl⟩
        have hnl2 : n2.l < 4294967296 ∧ n2.r < 4294967296 := by rw [hn2]; exact ⟨hnl.1, hyr.1⟩
        have HP2 := Aside.mk (fun (W : World) (h : TreeAt W t a g cap (B.tright n.r) root len) => tput_ok W t a g cap (B.tright n.r) root len h i hi n2 hnl2.1 hnl2.2 (k + 1 + 1 + 1) (by omega) (tright_hb HHB.out))
        have HT2 := Aside.mk (fun (W : World) (h : TreeAt W t a g cap ((B.tright n.r).tput i n2) root len) => tleft_ok W t a g cap _ root len h i hi (tput_lb (tright_lb HLB.out hnl.2) hnl2.1 hnl2.2) (k + 1 + 1 + 1 + 1) (by omega) (tput_hb (tright_hb HHB.out)))
        rw [← hn2]
        have HN2 := Aside.mk hn2
        clear hn2
        generalize B.tright n.r = B1 at HT1 HP2 HT2 ⊢
        generalize B1.tput i n2 = B2 at HP2 HT2 ⊢
        unfold Nd.V at HP2
        go_enter Tryz.func236, Tryz.ntmps236
        go_upto_region 1 with fail
        have B5 := Aside.mk (Bx.new (w := w) w n (Nat.le_refl _))
        replace TW := Aside.mk (TW.out.alloc (.cells #[.int .u32 n.l, .int .u32 n.r, .int .i64 n.h, .int .i64 n.b, .int .i64 n.n, .int .i64 n.p] 221))
        obtain ⟨b5, hb5⟩ : ∃ b, b = w.heap.size := ⟨_, rfl⟩
        rw [← hb5] at B5 ⊢
        clear hb5
        generalize World.alloc w _ = w2 at TW B5 ⊢
        obtain ⟨f0, f1, f2, f3, f4, f5, fz⟩ := B5.out.facts
        go_upto_region 2 with (go_at_call 233; go_loud (refine (HP1.out _ TW.out.tr).mono ?_; rintro e w3 ⟨rfl, hm, ht⟩; have TW1 := Aside.mk (TW.out.step hm ht); have B51 := Aside.mk (B5.out.modB hm TW.out.ltg); clear TW B5 hm ht f0 f1 f2 f3 f4 f5 fz; have TW := TW1; have B5 := B51; clear TW1 B51; obtain ⟨f0, f1, f2, f3, f4, f5, fz⟩ := B5.out.facts))
        replace TW := Aside.mk (TW.out.below (Below.refl _ w3).drew)
        replace B5 := Aside.mk (B5.out.below (Below.refl _ w3).drew)
        go_region_held3 (fun W' => W'.cell? ⟨b5, 0, none⟩ = some (.int .u32 n.l) ∧ W'.cell? ⟨b5, 1, none⟩ = some (.int .u32 n.r)) (first | (with_reducible exact ⟨f0, f1⟩) | (simp only [World.cell?_drew]; with_reducible exact ⟨f0, f1⟩)) (first | (go_at_call 239; (with_reducible refine (HL.out _ TW.out.tr).mono ?_); rintro e w1 ⟨rfl, hb⟩; have TW1 := Aside.mk (TW.out.below hb); have B51 := Aside.mk (B5.out.below hb); clear TW hb f0 f1 f2 f3 f4 f5 fz B5; have TW := TW1; have B5 := B51; clear TW1 B51; obtain ⟨f0, f1, f2, f3, f4, f5, fz⟩ := B5.out.facts) | (go_at_call 239; (with_reducible refine (HR.out _ TW.out.tr).mono ?_); rintro e w1 ⟨rfl, hb⟩; have TW1 := Aside.mk (TW.out.below hb); have B51 := Aside.mk (B5.out.below hb); clear TW hb f0 f1 f2 f3 f4 f5 fz B5; have TW := TW1; have B5 := B51; clear TW1 B51; obtain ⟨f0, f1, f2, f3, f4, f5, fz⟩ := B5.out.facts))
        rename_i hh
        clear hh
        go_upto_region 11 with (go_at_call 227; go_loud (refine (HG.out _ n.r hnl.2 TW.out.tr).mono ?_; rintro e w3 ⟨rfl, hb⟩; have TW1 := Aside.mk (TW.out.below hb); have B51 := Aside.mk (B5.out.below hb); clear TW B5 hb f0 f1 f2 f3 f4 f5 fz; have TW := TW1; have B5 := B51; clear TW1 B51))
        rw [← YR.out]
        have B8 := Aside.mk (Bx.new (w := w) w3 yr TW.out.mod.size)
        have hne : b5 ≠ w3.heap.size := Nat.ne_of_lt B5.out.lt
        replace TW := Aside.mk (TW.out.alloc (.cells #[.int .u32 yr.l, .int .u32 yr.r, .int .i64 yr.h, .int .i64 yr.b, .int .i64 yr.n, .int .i64 yr.p] 221))
        replace B5 := Aside.mk (B5.out.alloc (.cells #[.int .u32 yr.l, .int .u32 yr.r, .int .i64 yr.h, .int .i64 yr.b, .int .i64 yr.n, .int .i64 yr.p] 221))
        obtain ⟨b8, hb8⟩ : ∃ b, b = w3.heap.size := ⟨_, rfl⟩
        rw [← hb8] at B8 hne ⊢
        clear hb8
        generalize World.alloc w3 _ = w4 at TW B5 B8 ⊢
        obtain ⟨f0, f1, f2, f3, f4, f5, fz⟩ := B5.out.facts
        obtain ⟨m0, m1, -, -, -, -, -⟩ := B8.out.facts
        replace TW := Aside.mk (TW.out.below (Below.refl _ w4).drew)
        replace B5 := Aside.mk (B5.out.below (Below.refl _ w4).drew)
        replace B8 := Aside.mk (B8.out.below (Below.refl _ w4).drew)
        go_region_held3 (fun W' => W'.cell? ⟨b8, 0, none⟩ = some (.int .u32 yr.l) ∧ W'.cell? ⟨b8, 1, none⟩ = some (.int .u32 yr.r)) (first | (with_reducible exact ⟨m0, m1⟩) | (simp only [World.cell?_drew]; with_reducible exact ⟨m0, m1⟩)) (first | (go_at_call 239; (with_reducible refine (HA.out _ TW.out.tr).mono ?_); rintro e w1 ⟨rfl, hb⟩; have TW1 := Aside.mk (TW.out.below hb); have B51 := Aside.mk (B5.out.below hb); have B81 := Aside.mk (B8.out.below hb); clear TW hb f0 f1 f2 f3 f4 f5 fz B5 B8 m0 m1; have TW := TW1; have B5 := B51; have B8 := B81; clear TW1 B51 B81; obtain ⟨m0, m1, -, -, -, -, -⟩ := B8.out.facts; obtain ⟨f0, f1, f2, f3, f4, f5, fz⟩ := B5.out.facts) | (go_at_call 239; (with_reducible refine (HC.out _ TW.out.tr).mono ?_); rintro e w1 ⟨rfl, hb⟩; have TW1 := Aside.mk (TW.out.below hb); have B51 := Aside.mk (B5.out.below hb); have B81 := Aside.mk (B8.out.below hb); clear TW hb f0 f1 f2 f3 f4 f5 fz B5 B8 m0 m1; have TW := TW1; have B5 := B51; have B8 := B81; clear TW1 B51 B81; obtain ⟨m0, m1, -, -, -, -, -⟩ := B8.out.facts; obtain ⟨f0, f1, f2, f3, f4, f5, fz⟩ := B5.out.facts))
        rename_i hh
        clear hh m0 m1
        go_upto_region 13 with (go_at_call 243; go_loud (refine (HT1.out _ TW.out.tr).mono ?_; rintro e w5 ⟨rfl, tw⟩; have TW1 := Aside.mk (TW.out.step tw.mod tw.tr); have B51 := Aside.mk (B5.out.modB tw.mod TW.out.ltg); clear TW B5 B8 tw f0 f1 f2 f3 f4 f5 fz; have TW := TW1; have B5 := B51; clear TW1 B51; rw [← YR.out]; obtain ⟨f0, f1, f2, f3, f4, f5, fz⟩ := B5.out.facts))
        clear f0 f1 f2 f3 f4 f5 fz
        replace TW := Aside.mk (TW.out.set B5.out.hb 1 (.int .u32 yr.l))
        replace B5 := Aside.mk (B5.out.put 1 (.int .u32 yr.l) n2 (by rw [HN2.out]; rfl))
        generalize World.setCell _ _ _ = w6 at TW B5 ⊢
        obtain ⟨f0, f1, f2, f3, f4, f5, fz⟩ := B5.out.facts
        go_wp2_with (first | (go_at_call 233; go_loud (refine (HP2.out _ TW.out.tr).mono ?_; rintro e w7 ⟨rfl, hm, ht⟩; have TW1 := Aside.mk (TW.out.step hm ht); clear TW B5 hm ht f0 f1 f2 f3 f4 f5 fz; have TW := TW1; clear TW1)) | (go_at_call 242; go_loud (refine (HT2.out _ TW.out.tr).mono ?_; rintro e w8 ⟨rfl, tw⟩; have TW1 := Aside.mk (TW.out.step tw.mod tw.tr); clear TW tw; have TW := TW1; clear TW1)))
        go_ret
        exact ⟨rfl, TW.out⟩
      · rw [if_neg hh2]
        have HT0 := Aside.mk (fun (W : World) (h : TreeAt W t a g cap B root len) => tleft_ok W t a g cap B root len h i hi HLB.out (k + 1) (by omega) HHB.out)
        go_enter Tryz.func236, Tryz.ntmps236
        go_upto_region 1 with fail
        have B5 := Aside.mk (Bx.new (w := w) w n (Nat.le_refl _))
        replace TW := Aside.mk (TW.out.alloc (.cells #[.int .u32 n.l, .int .u32 n.r, .int .i64 n.h, .int .i64 n.b, .int .i64 n.n, .int .i64 n.p] 221))
        obtain ⟨b5, hb5⟩ : ∃ b, b = w.heap.size := ⟨_, rfl⟩
        rw [← hb5] at B5 ⊢
        clear hb5
        generalize World.alloc w _ = w2 at TW B5 ⊢
        obtain ⟨f0, f1, f2, f3, f4, f5, fz⟩ := B5.out.facts
        go_upto_region 2 with (go_at_call 233; go_loud (refine (HP1.out _ TW.out.tr).mono ?_; rintro e w3 ⟨rfl, hm, ht⟩; have TW1 := Aside.mk (TW.out.step hm ht); have B51 := Aside.mk (B5.out.modB hm TW.out.ltg); clear TW B5 hm ht f0 f1 f2 f3 f4 f5 fz; have TW := TW1; have B5 := B51; clear TW1 B51; obtain ⟨f0, f1, f2, f3, f4, f5, fz⟩ := B5.out.facts))
        replace TW := Aside.mk (TW.out.below (Below.refl _ w3).drew)
        replace B5 := Aside.mk (B5.out.below (Below.refl _ w3).drew)
        go_region_held3 (fun W' => W'.cell? ⟨b5, 0, none⟩ = some (.int .u32 n.l) ∧ W'.cell? ⟨b5, 1, none⟩ = some (.int .u32 n.r)) (first | (with_reducible exact ⟨f0, f1⟩) | (simp only [World.cell?_drew]; with_reducible exact ⟨f0, f1⟩)) (first | (go_at_call 239; (with_reducible refine (HL.out _ TW.out.tr).mono ?_); rintro e w1 ⟨rfl, hb⟩; have TW1 := Aside.mk (TW.out.below hb); have B51 := Aside.mk (B5.out.below hb); clear TW hb f0 f1 f2 f3 f4 f5 fz B5; have TW := TW1; have B5 := B51; clear TW1 B51; obtain ⟨f0, f1, f2, f3, f4, f5, fz⟩ := B5.out.facts) | (go_at_call 239; (with_reducible refine (HR.out _ TW.out.tr).mono ?_); rintro e w1 ⟨rfl, hb⟩; have TW1 := Aside.mk (TW.out.below hb); have B51 := Aside.mk (B5.out.below hb); clear TW hb f0 f1 f2 f3 f4 f5 fz B5; have TW := TW1; have B5 := B51; clear TW1 B51; obtain ⟨f0, f1, f2, f3, f4, f5, fz⟩ := B5.out.facts))
        rename_i hh
        clear hh
        go_upto_region 11 with (go_at_call 227; go_loud (refine (HG.out _ n.r hnl.2 TW.out.tr).mono ?_; rintro e w3 ⟨rfl, hb⟩; have TW1 := Aside.mk (TW.out.below hb); have B51 := Aside.mk (B5.out.below hb); clear TW B5 hb f0 f1 f2 f3 f4 f5 fz; have TW := TW1; have B5 := B51; clear TW1 B51))
        rw [← YR.out]
        have B8 := Aside.mk (Bx.new (w := w) w3 yr TW.out.mod.size)
        have hne : b5 ≠ w3.heap.size := Nat.ne_of_lt B5.out.lt
        replace TW := Aside.mk (TW.out.alloc (.cells #[.int .u32 yr.l, .int .u32 yr.r, .int .i64 yr.h, .int .i64 yr.b, .int .i64 yr.n, .int .i64 yr.p] 221))
        replace B5 := Aside.mk (B5.out.alloc (.cells #[.int .u32 yr.l, .int .u32 yr.r, .int .i64 yr.h, .int .i64 yr.b, .int .i64 yr.n, .int .i64 yr.p] 221))
        obtain ⟨b8, hb8⟩ : ∃ b, b = w3.heap.size := ⟨_, rfl⟩
        rw [← hb8] at B8 hne ⊢
        clear hb8
        generalize World.alloc w3 _ = w4 at TW B5 B8 ⊢
        obtain ⟨f0, f1, f2, f3, f4, f5, fz⟩ := B5.out.facts
        obtain ⟨m0, m1, -, -, -, -, -⟩ := B8.out.facts
        replace TW := Aside.mk (TW.out.below (Below.refl _ w4).drew)
        replace B5 := Aside.mk (B5.out.below (Below.refl _ w4).drew)
        replace B8 := Aside.mk (B8.out.below (Below.refl _ w4).drew)
        go_region_held3 (fun W' => W'.cell? ⟨b8, 0, none⟩ = some (.int .u32 yr.l) ∧ W'.cell? ⟨b8, 1, none⟩ = some (.int .u32 yr.r)) (first | (with_reducible exact ⟨m0, m1⟩) | (simp only [World.cell?_drew]; with_reducible exact ⟨m0, m1⟩)) (first | (go_at_call 239; (with_reducible refine (HA.out _ TW.out.tr).mono ?_); rintro e w1 ⟨rfl, hb⟩; have TW1 := Aside.mk (TW.out.below hb); have B51 := Aside.mk (B5.out.below hb); have B81 := Aside.mk (B8.out.below hb); clear TW hb f0 f1 f2 f3 f4 f5 fz B5 B8 m0 m1; have TW := TW1; have B5 := B51; have B8 := B81; clear TW1 B51 B81; obtain ⟨m0, m1, -, -, -, -, -⟩ := B8.out.facts; obtain ⟨f0, f1, f2, f3, f4, f5, fz⟩ := B5.out.facts) | (go_at_call 239; (with_reducible refine (HC.out _ TW.out.tr).mono ?_); rintro e w1 ⟨rfl, hb⟩; have TW1 := Aside.mk (TW.out.below hb); have B51 := Aside.mk (B5.out.below hb); have B81 := Aside.mk (B8.out.below hb); clear TW hb f0 f1 f2 f3 f4 f5 fz B5 B8 m0 m1; have TW := TW1; have B5 := B51; have B8 := B81; clear TW1 B51 B81; obtain ⟨m0, m1, -, -, -, -, -⟩ := B8.out.facts; obtain ⟨f0, f1, f2, f3, f4, f5, fz⟩ := B5.out.facts))
        rename_i hh
        clear hh m0 m1
        go_wp2_with (go_at_call 242; go_loud (refine (HT0.out _ TW.out.tr).mono ?_; rintro e w8 ⟨rfl, tw⟩; have TW1 := Aside.mk (TW.out.step tw.mod tw.tr); clear TW tw; have TW := TW1; clear TW1))
        go_ret
        exact ⟨rfl, TW.out⟩
    · rw [if_neg hd2]
      go_enter Tryz.func236, Tryz.ntmps236
      go_upto_region 1 with fail
      have B5 := Aside.mk (Bx.new (w := w) w n (Nat.le_refl _))
      replace TW := Aside.mk (TW.out.alloc (.cells #[.int .u32 n.l, .int .u32 n.r, .int .i64 n.h, .int .i64 n.b, .int .i64 n.n, .int .i64 n.p] 221))
      obtain ⟨b5, hb5⟩ : ∃ b, b = w.heap.size := ⟨_, rfl⟩
      rw [← hb5] at B5 ⊢
      clear hb5
      generalize World.alloc w _ = w2 at TW B5 ⊢
      obtain ⟨f0, f1, f2, f3, f4, f5, fz⟩ := B5.out.facts
      go_upto_region 2 with (go_at_call 233; go_loud (refine (HP1.out _ TW.out.tr).mono ?_; rintro e w3 ⟨rfl, hm, ht⟩; have TW1 := Aside.mk (TW.out.step hm ht); have B51 := Aside.mk (B5.out.modB hm TW.out.ltg); clear TW B5 hm ht f0 f1 f2 f3 f4 f5 fz; have TW := TW1; have B5 := B51; clear TW1 B51; obtain ⟨f0, f1, f2, f3, f4, f5, fz⟩ := B5.out.facts))
      replace TW := Aside.mk (TW.out.below (Below.refl _ w3).drew)
      replace B5 := Aside.mk (B5.out.below (Below.refl _ w3).drew)
      go_region_held3 (fun W' => W'.cell? ⟨b5, 0, none⟩ = some (.int .u32 n.l) ∧ W'.cell? ⟨b5, 1, none⟩ = some (.int .u32 n.r)) (first | (with_reducible exact ⟨f0, f1⟩) | (simp only [World.cell?_drew]; with_reducible exact ⟨f0, f1⟩)) (first | (go_at_call 239; (with_reducible refine (HL.out _ TW.out.tr).mono ?_); rintro e w1 ⟨rfl, hb⟩; have TW1 := Aside.mk (TW.out.below hb); have B51 := Aside.mk (B5.out.below hb); clear TW hb f0 f1 f2 f3 f4 f5 fz B5; have TW := TW1; have B5 := B51; clear TW1 B51; obtain ⟨f0, f1, f2, f3, f4, f5, fz⟩ := B5.out.facts) | (go_at_call 239; (with_reducible refine (HR.out _ TW.out.tr).mono ?_); rintro e w1 ⟨rfl, hb⟩; have TW1 := Aside.mk (TW.out.below hb); have B51 := Aside.mk (B5.out.below hb); clear TW hb f0 f1 f2 f3 f4 f5 fz B5; have TW := TW1; have B5 := B51; clear TW1 B51; obtain ⟨f0, f1, f2, f3, f4, f5, fz⟩ := B5.out.facts))
      rename_i hh
      clear hh
      go_wp2_with fail
      go_ret
      exact ⟨rfl, TW.out⟩
end Lo
end Go.Proofs.YtjmhkcfdmcjilaaGreat
