/-
  Walk of the tree: remove.
-/
import Derived.Test.YtjmhkcfdmcjilaaGreatLoE
/- Walks of the tree: first, remove. -/
/- Walks of the arena: Take, Give. -/
set_option linter.unusedVariables false
set_option linter.unusedSimpArgs false
namespace Go.Proofs.YtjmhkcfdmcjilaaGreat
namespace Lo
open Go.RowKit Ai Fi

def Pl.cells (x : Pl) : List Value := [.bool x.live, .int .u32 x.next, .int .u32 x.nd.l, .int .u32 x.nd.r, .int .i64 x.nd.h, .int .i64 x.nd.b, .int .i64 x.nd.n, .int .i64 x.nd.p]

theorem setCells8 (W : World) (g o : Nat) (x : Pl) : W.setCells g o x.cells = (((((((W.setCell ⟨g, o, none⟩ (.bool x.live)).setCell ⟨g, o + 1, none⟩ (.int .u32 x.next)).setCell ⟨g, o + 2, none⟩ (.int .u32 x.nd.l)).setCell ⟨g, o + 3, none⟩ (.int .u32 x.nd.r)).setCell ⟨g, o + 4, none⟩ (.int .i64 x.nd.h)).setCell ⟨g, o + 5, none⟩ (.int .i64 x.nd.b)).setCell ⟨g, o + 6, none⟩ (.int .i64 x.nd.n)).setCell ⟨g, o + 7, none⟩ (.int .i64 x.nd.p) := by
  simp only [Pl.cells, World.setCells, Nat.add_assoc, Nat.reduceAdd]

theorem setCells8_live (W : World) (g o : Nat) : (((((((W.setCell ⟨g, o, none⟩ (.bool true)).setCell ⟨g, o + 1, none⟩ (.int .u32 0)).setCell ⟨g, o + 2, none⟩ (.int .u32 0)).setCell ⟨g, o + 3, none⟩ (.int .u32 0)).setCell ⟨g, o + 4, none⟩ (.int .i64 0)).setCell ⟨g, o + 5, none⟩ (.int .i64 0)).setCell ⟨g, o + 6, none⟩ (.int .i64 0)).setCell ⟨g, o + 7, none⟩ (.int .i64 0) = W.setCells g o (Pl.cells ⟨true, 0, Nd.zero⟩) :=
  (setCells8 W g o ⟨true, 0, Nd.zero⟩).symm
theorem setCells8_free (W : World) (g o : Nat) (f : Nat) : (((((((W.setCell ⟨g, o, none⟩ (.bool false)).setCell ⟨g, o + 1, none⟩ (.int .u32 f)).setCell ⟨g, o + 2, none⟩ (.int .u32 0)).setCell ⟨g, o + 3, none⟩ (.int .u32 0)).setCell ⟨g, o + 4, none⟩ (.int .i64 0)).setCell ⟨g, o + 5, none⟩ (.int .i64 0)).setCell ⟨g, o + 6, none⟩ (.int .i64 0)).setCell ⟨g, o + 7, none⟩ (.int .i64 0) = W.setCells g o (Pl.cells ⟨false, f, Nd.zero⟩) :=
  (setCells8 W g o ⟨false, f, Nd.zero⟩).symm

theorem ArAt.row {w : World} {a g cap : Nat} {A : Ar} (h : ArAt w a g cap A) {i : Nat} (hi : i < 513) :
    w.cell? ⟨g, i * 8, none⟩ = some (.bool (A.pl i).live) ∧ w.cell? ⟨g, i * 8 + 1, none⟩ = some (.int .u32 (A.pl i).next) ∧ w.cell? ⟨g, i * 8 + 2, none⟩ = some (.int .u32 (A.pl i).nd.l) ∧ w.cell? ⟨g, i * 8 + 3, none⟩ = some (.int .u32 (A.pl i).nd.r) ∧
    w.cell? ⟨g, i * 8 + 4, none⟩ = some (.int .i64 (A.pl i).nd.h) ∧ w.cell? ⟨g, i * 8 + 5, none⟩ = some (.int .i64 (A.pl i).nd.b) ∧ w.cell? ⟨g, i * 8 + 6, none⟩ = some (.int .i64 (A.pl i).nd.n) ∧ w.cell? ⟨g, i * 8 + 7, none⟩ = some (.int .i64 (A.pl i).nd.p) := by
  obtain ⟨f0, f1, f2, f3, f4, f5⟩ := node_facts (h.node i hi)
  exact ⟨h.live i hi, h.next i hi, f0, f1, f2, f3, f4, f5⟩

/-- A place is stored whole. -/
theorem ArAt.setPl {w : World} {a g cap : Nat} {A : Ar} (h : ArAt w a g cap A) {i : Nat} (hi : i < 513) (x : Pl) : ArAt (w.setCells g (i * 8) x.cells) a g cap (A.set i x) := by
  have hl : x.cells.length = 8 := rfl
  obtain ⟨r0, r1, r2, r3, r4, r5, r6, r7⟩ := h.row hi
  have ht : w.there g (i * 8) x.cells.length := fun j hj => ⟨by
    have hj' : j < 8 := hj
    rcases j with _ | _ | _ | _ | _ | _ | _ | _ | j <;> first | (simp only [Nat.add_zero, Nat.zero_add, *]; rfl) | omega, h.fr _⟩
  have out : ∀ o, (o < i * 8 ∨ i * 8 + 8 ≤ o) → (w.setCells g (i * 8) x.cells).cell? ⟨g, o, none⟩ = w.cell? ⟨g, o, none⟩ := fun o ho => World.cell?_setCells_out g x.cells _ w ⟨g, o, none⟩ (fun _ _ => by
    show o < i * 8 ∨ i * 8 + x.cells.length ≤ o
    omega)
  have ins := World.rangeAt_setCells_same w g (i * 8) x.cells ht
  refine ⟨?_, fun j hj => ?_, fun j hj => ?_, fun j hj => ?_, fun j => by rw [World.frozen?_setCells]; exact h.fr j, h.ne⟩
  · rw [setCells_heap _ _ _ _ (Ne.symm h.ne)]; exact h.obj
  · by_cases e : j = i
    · subst e
      simp only [Ar.set, if_true]
      exact ins 0 _ rfl
    · simp only [Ar.set, if_neg e]
      rw [out _ (by omega)]; exact h.live j hj
  · by_cases e : j = i
    · subst e
      simp only [Ar.set, if_true]
      exact ins 1 _ rfl
    · simp only [Ar.set, if_neg e]
      rw [out _ (by omega)]; exact h.next j hj
  · by_cases e : j = i
    · subst e
      simp only [Ar.set, if_true]
      intro k v hk
      have hk6 : k < 6 := (List.getElem?_eq_some_iff.1 hk).1
      rw [Nat.add_assoc]
      refine ins (2 + k) v ?_
      rcases k with _ | _ | _ | _ | _ | _ | k <;> first | exact hk | omega
    · simp only [Ar.set, if_neg e]
      exact World.rangeAt_setCells_apart (h.node j hj) _ _ _ (.inr (by
        show j * 8 + 2 + 6 ≤ i * 8 ∨ i * 8 + 8 ≤ j * 8 + 2
        omega))

theorem ArAt.setFree {w : World} {a g cap : Nat} {A : Ar} (h : ArAt w a g cap A) (f : Nat) : ArAt (w.setCell ⟨a, 1, none⟩ (.int .u32 f)) a g cap { A with free := f } := by
  have eg : (w.setCell ⟨a, 1, none⟩ (.int .u32 f)).heap[g]? = w.heap[g]? := heap_setCell_other w ⟨a, 1, none⟩ g _ h.ne
  have ec : ∀ o, (w.setCell ⟨a, 1, none⟩ (.int .u32 f)).cell? ⟨g, o, none⟩ = w.cell? ⟨g, o, none⟩ := fun o => by simp only [World.cell?, eg]
  have ef : ∀ o, (w.setCell ⟨a, 1, none⟩ (.int .u32 f)).frozen? ⟨g, o, none⟩ = w.frozen? ⟨g, o, none⟩ := fun o => by simp only [World.frozen?, eg]
  exact ⟨by rw [heap_setCell_same w a 1 _ 219 _ h.obj]; rfl, fun i hi => by rw [ec]; exact h.live i hi, fun i hi => by rw [ec]; exact h.next i hi, fun i hi j v hj => by rw [ec]; exact h.node i hi j v hj, fun j => by rw [ef]; exact h.fr j, h.ne⟩
theorem ArAt.setLive {w : World} {a g cap : Nat} {A : Ar} (h : ArAt w a g cap A) (f : Int) : ArAt (w.setCell ⟨a, 2, none⟩ (.int .i64 f)) a g cap { A with live := f } := by
  have eg : (w.setCell ⟨a, 2, none⟩ (.int .i64 f)).heap[g]? = w.heap[g]? := heap_setCell_other w ⟨a, 2, none⟩ g _ h.ne
  have ec : ∀ o, (w.setCell ⟨a, 2, none⟩ (.int .i64 f)).cell? ⟨g, o, none⟩ = w.cell? ⟨g, o, none⟩ := fun o => by simp only [World.cell?, eg]
  have ef : ∀ o, (w.setCell ⟨a, 2, none⟩ (.int .i64 f)).frozen? ⟨g, o, none⟩ = w.frozen? ⟨g, o, none⟩ := fun o => by simp only [World.frozen?, eg]
  exact ⟨by rw [heap_setCell_same w a 2 _ 219 _ h.obj]; rfl, fun i hi => by rw [ec]; exact h.live i hi, fun i hi => by rw [ec]; exact h.next i hi, fun i hi j v hj => by rw [ec]; exact h.node i hi j v hj, fun j => by rw [ef]; exact h.fr j, h.ne⟩
theorem ArAt.fra {w : World} {a g cap : Nat} {A : Ar} (h : ArAt w a g cap A) (j : Nat) : w.frozen? ⟨a, j, none⟩ = false := by simp [World.frozen?, h.obj]

theorem modB_set (w : World) (b j : Nat) (v : Value) : ModB (· = b) w (w.setCell ⟨b, j, none⟩ v) := modB_setCells w b j [v]

def Ar.take (A : Ar) : Ar := { (A.set A.free ⟨true, 0, Nd.zero⟩) with free := (A.pl A.free).next, live := wrap64 (A.live + 1) }
def Ar.give (A : Ar) (i : Nat) : Ar := { (A.set i ⟨false, A.free, Nd.zero⟩) with free := i, live := wrap64 (A.live - 1) }

def TakePost (w : World) (a g cap : Nat) (A : Ar) (e : Ending) (w' : World) : Prop := e = .returned (.tuple #[.int .u32 A.free, .int .i64 0]) ∧ ModB (fun k => k = g ∨ k = a) w w' ∧ ArAt w' a g cap A.take

set_option maxHeartbeats 4000000 in
set_option maxRecDepth 100000 in
theorem take_ok (w : World) (a g cap : Nat) (A : Ar) (hA : ArAt w a g cap A) (h0 : 1 ≤ A.free) (h1 : A.free < 513) :
    Calls Tryz.prog 232 #[.pointer (some ⟨a, 0, none⟩)] w (TakePost w a g cap A) := by
  have AT := Aside.mk hA
  obtain ⟨c0, c1, c2⟩ := hA.cells
  obtain ⟨r0, r1, r2, r3, r4, r5, r6, r7⟩ := hA.row h1
  have za := hA.fra
  have hne := hA.ne
  obtain ⟨i, hi⟩ : ∃ i, i = A.free := ⟨_, rfl⟩
  obtain ⟨nx, hnx⟩ : ∃ nx, nx = (A.pl A.free).next := ⟨_, rfl⟩
  rw [← hnx] at r1
  rw [← hi] at c1 h0 h1 r0 r1 r2 r3 r4 r5 r6 r7
  have HI := Aside.mk hi
  have HNX := Aside.mk hnx
  have i0 : ¬ (i : Int) = 0 := by omega
  have i1 : (0 : Int) ≤ i := by omega
  have i2 : (i : Int) < 513 := by omega
  clear hi hnx hA r2 r3 r4 r5 r6 r7
  go_enter Tryz.func232, Tryz.ntmps232
  go_upto_region 5 with fail
  have M1 := Aside.mk ((modB_set w a 1 (.int .u32 nx)).mono (T := fun k => k = g ∨ k = a) (fun k _ h => .inr h))
  replace AT := Aside.mk (AT.out.setFree nx)
  obtain ⟨A1, hA1⟩ : ∃ A1 : Ar, A1 = { A with free := nx } := ⟨_, rfl⟩
  rw [← hA1] at AT
  have HA1 := Aside.mk hA1
  have hlv : A1.live = A.live := by rw [hA1]
  clear hA1
  generalize World.setCell _ _ _ = w1 at AT M1 ⊢
  clear c0 c1 c2 r0 r1 za
  obtain ⟨c0, c1, c2⟩ := AT.out.cells
  obtain ⟨r0, r1, r2, r3, r4, r5, r6, r7⟩ := AT.out.row h1
  have z0 := AT.out.fr (i * 8)
  have z1 := AT.out.fr (i * 8 + 1)
  have z2 := AT.out.fr (i * 8 + 2)
  have z3 := AT.out.fr (i * 8 + 3)
  have z4 := AT.out.fr (i * 8 + 4)
  have z5 := AT.out.fr (i * 8 + 5)
  have z6 := AT.out.fr (i * 8 + 6)
  have z7 := AT.out.fr (i * 8 + 7)
  go_upto_region 6 with fail
  rw [setCells8_live]
  clear z0 z1 z2 z3 z4 z5 z6 z7 r0 r1 r2 r3 r4 r5 r6 r7 c0 c1 c2
  have M2 := Aside.mk (M1.out.trans ((modB_setCells w1 g (i * 8) (Pl.cells ⟨true, 0, Nd.zero⟩)).mono (T := fun k => k = g ∨ k = a) (fun k _ h => .inl h)))
  replace AT := Aside.mk (AT.out.setPl h1 ⟨true, 0, Nd.zero⟩)
  obtain ⟨A2, hA2⟩ : ∃ A2 : Ar, A2 = A1.set i ⟨true, 0, Nd.zero⟩ := ⟨_, rfl⟩
  rw [← hA2] at AT
  have HA2 := Aside.mk hA2
  have hlv2 : A2.live = A.live := by rw [hA2]; exact hlv
  clear hA2 M1 hlv
  generalize World.setCells _ _ _ _ = w2 at AT M2 ⊢
  obtain ⟨c0, c1, c2⟩ := AT.out.cells
  have za := AT.out.fra
  rw [hlv2] at c2
  go_wp2_with fail
  have M3 := Aside.mk (M2.out.trans ((modB_set w2 a 2 (.int .i64 (wrap64 (A.live + 1)))).mono (T := fun k => k = g ∨ k = a) (fun k _ h => .inr h)))
  replace AT := Aside.mk (AT.out.setLive (wrap64 (A.live + 1)))
  clear c0 c1 c2 za
  go_ret2
  refine ⟨by rw [← HI.out]; rfl, M3.out, ?_⟩
  have e : A.take = { A2 with live := wrap64 (A.live + 1) } := by
    rw [HA2.out, HA1.out, HNX.out, HI.out]; rfl
  rw [e]
  exact AT.out

def GivePost (w : World) (a g cap : Nat) (A : Ar) (i : Nat) (e : Ending) (w' : World) : Prop := e = .returned (.int .i64 0) ∧ ModB (fun k => k = g ∨ k = a) w w' ∧ ArAt w' a g cap (A.give i)

set_option maxHeartbeats 4000000 in
set_option maxRecDepth 100000 in
theorem give_ok (w : World) (a g cap : Nat) (A : Ar) (hA : ArAt w a g cap A) (i : Nat) (hh : A.has i = true) :
    Calls Tryz.prog 237 #[.pointer (some ⟨a, 0, none⟩), .int .u32 i] w (GivePost w a g cap A i) := by
  have h1 : i < 513 := by
    simp only [Ar.has, Bool.and_eq_true, decide_eq_true_eq] at hh
    exact hh.1
  have HH := Aside.mk (has_ok w a g cap A hA i (by omega))
  rw [hh] at HH
  have AT := Aside.mk hA
  have ATd := Aside.mk (hA.below (Below.refl _ w).drew)
  obtain ⟨c0, c1, c2⟩ := hA.cells
  obtain ⟨r0, r1, r2, r3, r4, r5, r6, r7⟩ := hA.row h1
  have z0 := AT.out.fr (i * 8)
  have z1 := AT.out.fr (i * 8 + 1)
  have z2 := AT.out.fr (i * 8 + 2)
  have z3 := AT.out.fr (i * 8 + 3)
  have z4 := AT.out.fr (i * 8 + 4)
  have z5 := AT.out.fr (i * 8 + 5)
  have z6 := AT.out.fr (i * 8 + 6)
  have z7 := AT.out.fr (i * 8 + 7)
  have n1 := hA.ne
  have n2 : a ≠ g := Ne.symm n1
  have i1 : (0 : Int) ≤ i := by omega
  have i2 : (i : Int) < 513 := by omega
  obtain ⟨fr, hfr⟩ : ∃ fr, fr = A.free := ⟨_, rfl⟩
  rw [← hfr] at c1
  have HFR := Aside.mk hfr
  clear hA hh hfr
  go_enter Tryz.func237, Tryz.ntmps237
  go_upto_region 3 with (go_at_call 241; go_loud (refine HH.out.mono ?_; rintro e w1 ⟨rfl, rfl⟩))
  go_region_held3 (fun W' => W'.cell? ⟨a, 0, none⟩ = some (.slice (some ⟨g, 0, none⟩) 513 cap) ∧ W'.cell? ⟨a, 1, none⟩ = some (.int .u32 fr)) (first | (with_reducible exact ⟨c0, c1⟩) | (simp only [World.cell?_drew]; with_reducible exact ⟨c0, c1⟩) | (go_keep; done)) (fail)
  rename_i hx
  clear hx
  rw [setCells8_free]
  clear z0 z1 z2 z3 z4 z5 z6 z7 r0 r1 r2 r3 r4 r5 r6 r7 c0 c1 c2 HH ATd
  have M1 := Aside.mk ((modB_setCells w1 g (i * 8) (Pl.cells ⟨false, fr, Nd.zero⟩)).mono (T := fun k => k = g ∨ k = a) (fun k _ h => .inl h))
  replace AT := Aside.mk (AT.out.setPl h1 ⟨false, fr, Nd.zero⟩)
  obtain ⟨A1, hA1⟩ : ∃ A1 : Ar, A1 = A.set i ⟨false, fr, Nd.zero⟩ := ⟨_, rfl⟩
  rw [← hA1] at AT
  have HA1 := Aside.mk hA1
  have hlv : A1.live = A.live := by rw [hA1]; rfl
  clear hA1
  generalize World.setCells _ _ _ _ = w2 at AT M1 ⊢
  replace AT := Aside.mk (AT.out.below (Below.refl _ w2).drew)
  replace M1 := Aside.mk (M1.out.below1 (Below.refl _ w2).drew)
  generalize w2.drew = w3 at AT M1 ⊢
  obtain ⟨c0, c1, c2⟩ := AT.out.cells
  have za := AT.out.fra
  go_upto_region 5 with fail
  have M2 := Aside.mk (M1.out.trans ((modB_set w3 a 1 (.int .u32 i)).mono (T := fun k => k = g ∨ k = a) (fun k _ h => .inr h)))
  replace AT := Aside.mk (AT.out.setFree i)
  obtain ⟨A2, hA2⟩ : ∃ A2 : Ar, A2 = { A1 with free := i } := ⟨_, rfl⟩
  rw [← hA2] at AT
  have HA2 := Aside.mk hA2
  have hlv2 : A2.live = A.live := by rw [hA2]; exact hlv
  clear hA2 M1 hlv c0 c1 c2 za
  generalize World.setCell _ _ _ = w4 at AT M2 ⊢
  obtain ⟨c0, c1, c2⟩ := AT.out.cells
  have za := AT.out.fra
  rw [hlv2] at c2
  go_wp2_with fail
  have M3 := Aside.mk (M2.out.trans ((modB_set w4 a 2 (.int .i64 (wrap64 (A.live - 1)))).mono (T := fun k => k = g ∨ k = a) (fun k _ h => .inr h)))
  replace AT := Aside.mk (AT.out.setLive (wrap64 (A.live - 1)))
  clear c0 c1 c2 za
  go_ret
  refine ⟨rfl, M3.out, ?_⟩
  have e : A.give i = { A2 with live := wrap64 (A.live - 1) } := by
    rw [HA2.out, HA1.out, HFR.out]; rfl
  rw [e]
  exact AT.out
end Lo
end Go.Proofs.YtjmhkcfdmcjilaaGreat
/- Plain: the first node taken out of a tree; a node removed. -/
set_option linter.unusedVariables false
set_option linter.unusedSimpArgs false
namespace Go.Proofs.YtjmhkcfdmcjilaaGreat
namespace Lo
open Go.RowKit

theorem rep_mem {A : Ar} : ∀ {T : Tr}, Rep A T → ∀ x ∈ T.xs, ∃ l r h, (A.pl x.i).nd = ⟨l, r, h, x.b, x.n, x.p⟩ ∧ 1 ≤ x.i ∧ x.i < 513 ∧ (A.pl x.i).live = true
  | .nil, _, x, hx => by simp [Tr.xs] at hx
  | .node i l r b n p, h, x, hx => by
    obtain ⟨h1, h2, h3, h4, h5, h6⟩ := h
    simp only [Tr.xs, List.mem_append, List.mem_cons] at hx
    rcases hx with hx | rfl | hx
    · exact rep_mem h5 x hx
    · exact ⟨_, _, _, h4, h1, h2, h3⟩
    · exact rep_mem h6 x hx

theorem mem_ids {xs : List Id3} {x : Id3} (h : x ∈ xs) : x.i ∈ ids xs := List.mem_map_of_mem h

def Fst (A A' : Ar) (T T' : Tr) (m : Id3) : Prop := Rep A' T' ∧ T.xs = m :: T'.xs ∧ Kept A A' (ids T'.xs)

theorem fst_base {A : Ar} {i : Nat} {r : Tr} {b n p : Int} (h : Rep A (.node i .nil r b n p)) : Fst A A (.node i .nil r b n p) r ⟨i, b, n, p⟩ := ⟨h.2.2.2.2.2, rfl, Kept.refl _ _⟩

theorem fst_step {A A' : Ar} (hz : Zero A) {i : Nat} {l r l' : Tr} {b n p h : Int} {m : Id3} (hr : Rep A (.node i l r b n p)) (hn : (ids (Tr.node i l r b n p).xs).Nodup) (hf : Fst A A' l l' m) :
    ∃ T', Fst A (A'.bal i ⟨l'.root, r.root, h, b, n, p⟩).1 (.node i l r b n p) T' m ∧ (A'.bal i ⟨l'.root, r.root, h, b, n, p⟩).2 = T'.root := by
  obtain ⟨m1, m2, m3, m4, m5⟩ := nodup_parts (l := l) (r := r) (x := ⟨i, b, n, p⟩) hn
  obtain ⟨f1, f2, f3⟩ := hf
  obtain ⟨i1, i2, i3, -, rl, rr⟩ := hr
  rw [f2, ids_cons] at m3 m5
  simp only [List.mem_cons, not_or] at m3
  have rr' : Rep A' r := rr.kept f3 fun j hj e => m5 j (List.mem_cons_of_mem _ e) hj
  have hn' : (ids (l'.xs ++ ⟨i, b, n, p⟩ :: r.xs)).Nodup := by
    have : (ids (Tr.node i l r b n p).xs) = m.i :: ids (l'.xs ++ ⟨i, b, n, p⟩ :: r.xs) := by simp only [Tr.xs]; rw [f2]; rfl
    rw [this] at hn
    exact (List.nodup_cons.1 hn).2
  obtain ⟨T', t1, t2, t3, t4⟩ := rep_bal (hz.kept f3) (h := h) (f3.pl3 ⟨i1, i2, i3⟩) f1 rr' hn'
  refine ⟨T', ⟨t1, by simp only [Tr.xs]; rw [f2, t3]; rfl, ?_⟩, t2⟩
  rw [t3]
  exact (f3.mono fun j hj => by rw [ids_append]; exact List.mem_append_left _ hj).trans t4

theorem give_pl {A : Ar} {i j : Nat} (h : j ≠ i) : (A.give i).pl j = A.pl j := by simp [Ar.give, Ar.set, h]
theorem give_get {A : Ar} {i : Nat} (j : Nat) : (A.give i).get j = if j = i then Nd.zero else A.get j := by
  by_cases h : j = i
  · subst h
    simp [Ar.get, Ar.has, Ar.give, Ar.set]
  · simp [h, Ar.get, Ar.has, give_pl h]
theorem give_zero {A : Ar} {i : Nat} (hz : Zero A) (hi : 1 ≤ i) : Zero (A.give i) := by
  unfold Zero
  rw [give_pl (by omega)]
  exact hz
theorem give_lb {A : Ar} {i : Nat} (h : LB A) : LB (A.give i) := fun j => by
  rw [give_get]; split
  · simp [Nd.zero]
  · exact h j
theorem give_hb {A : Ar} {i : Nat} {k : Int} (h : HB A k) (hk : 0 ≤ k) : HB (A.give i) k := fun j => by
  rw [give_get]; split
  · exact ⟨Int.le_refl _, hk⟩
  · exact h j
theorem Rep.give {A : Ar} {i : Nat} : ∀ {T : Tr}, Rep A T → i ∉ ids T.xs → Rep (A.give i) T
  | .nil, _, _ => trivial
  | .node j l r b n p, h, hi => by
    obtain ⟨h1, h2, h3, h4, h5, h6⟩ := h
    simp only [Tr.xs, ids_append, ids_cons, List.mem_append, List.mem_cons, not_or] at hi
    have hj : j ≠ i := fun e => hi.2.1 e.symm
    exact ⟨h1, h2, by rw [give_pl hj]; exact h3, by rw [give_pl hj]; exact h4, h5.give hi.1, h6.give hi.2.2⟩

def Rem (A A' : Ar) (T T' : Tr) (x : Id3) : Prop := Rep A' T' ∧ Kept (A.give x.i) A' (ids T'.xs) ∧ ∃ ys zs, T.xs = ys ++ x :: zs ∧ T'.xs = ys ++ zs

theorem nodup_rem {ys zs : List Id3} {x : Id3} (h : (ids (ys ++ x :: zs)).Nodup) : (ids (ys ++ zs)).Nodup ∧ x.i ∉ ids (ys ++ zs) := by
  have hp : (ids (ys ++ x :: zs)).Perm (x.i :: ids (ys ++ zs)) := by
    rw [ids_append, ids_cons, ids_append]
    exact List.perm_middle
  have := List.nodup_cons.1 (hp.nodup h)
  exact ⟨this.2, this.1⟩

theorem rem_left {A A' : Ar} (hz : Zero A) {i : Nat} {l r l' : Tr} {b n p h : Int} {x : Id3} (hr : Rep A (.node i l r b n p)) (hn : (ids (Tr.node i l r b n p).xs).Nodup) (hi : Rem A A' l l' x) :
    ∃ T', Rem A (A'.bal i ⟨l'.root, r.root, h, b, n, p⟩).1 (.node i l r b n p) T' x ∧ (A'.bal i ⟨l'.root, r.root, h, b, n, p⟩).2 = T'.root := by
  obtain ⟨m1, m2, m3, m4, m5⟩ := nodup_parts (l := l) (r := r) (x := ⟨i, b, n, p⟩) hn
  obtain ⟨rl', hk, ys, zs, e1, e2⟩ := hi
  obtain ⟨i1, i2, i3, -, rl, rr⟩ := hr
  have hn2 : (Tr.node i l r b n p).xs = ys ++ x :: (zs ++ ⟨i, b, n, p⟩ :: r.xs) := by simp only [Tr.xs]; rw [e1]; simp
  have hx : x.i ≠ i := by
    have : x.i ∈ ids l.xs := by rw [e1]; exact mem_ids (by simp)
    intro e; rw [e] at this; exact m3 this
  obtain ⟨_, _, _, _, x1, _⟩ := rep_mem rl x (by rw [e1]; simp)
  have hxr : x.i ∉ ids r.xs := m5 _ (by rw [e1]; exact mem_ids (by simp))
  have hsub : ∀ j ∈ ids l'.xs, j ∈ ids l.xs := fun j hj => by
    rw [e2] at hj
    rw [e1]
    simp only [ids_append, ids_cons, List.mem_append, List.mem_cons] at hj ⊢
    rcases hj with h | h
    · exact .inl h
    · exact .inr (.inr h)
  have rr' : Rep A' r := (rr.give hxr).kept hk fun j hj e => m5 j (hsub j e) hj
  have hn' : (ids (l'.xs ++ ⟨i, b, n, p⟩ :: r.xs)).Nodup := by
    have hq : l'.xs ++ ⟨i, b, n, p⟩ :: r.xs = ys ++ (zs ++ ⟨i, b, n, p⟩ :: r.xs) := by rw [e2]; simp
    rw [hq]
    rw [hn2] at hn
    exact (nodup_rem hn).1
  have hlive : 1 ≤ i ∧ i < 513 ∧ ((A.give x.i).pl i).live = true := ⟨i1, i2, by rw [give_pl (Ne.symm hx)]; exact i3⟩
  obtain ⟨T', t1, t2, t3, t4⟩ := rep_bal ((give_zero hz x1).kept hk) (h := h) (hk.pl3 hlive) rl' rr' hn'
  refine ⟨T', ⟨t1, ?_, ys, zs ++ ⟨i, b, n, p⟩ :: r.xs, hn2, by rw [t3, e2]; simp⟩, t2⟩
  rw [t3]
  exact (hk.mono fun j hj => by rw [ids_append]; exact List.mem_append_left _ hj).trans t4

theorem rem_right {A A' : Ar} (hz : Zero A) {i : Nat} {l r r' : Tr} {b n p h : Int} {x : Id3} (hr : Rep A (.node i l r b n p)) (hn : (ids (Tr.node i l r b n p).xs).Nodup) (hi : Rem A A' r r' x) :
    ∃ T', Rem A (A'.bal i ⟨l.root, r'.root, h, b, n, p⟩).1 (.node i l r b n p) T' x ∧ (A'.bal i ⟨l.root, r'.root, h, b, n, p⟩).2 = T'.root := by
  obtain ⟨m1, m2, m3, m4, m5⟩ := nodup_parts (l := l) (r := r) (x := ⟨i, b, n, p⟩) hn
  obtain ⟨rr', hk, ys, zs, e1, e2⟩ := hi
  obtain ⟨i1, i2, i3, -, rl, rr⟩ := hr
  have hn2 : (Tr.node i l r b n p).xs = (l.xs ++ ⟨i, b, n, p⟩ :: ys) ++ x :: zs := by simp only [Tr.xs]; rw [e1]; simp
  have hxin : x.i ∈ ids r.xs := by rw [e1]; exact mem_ids (by simp)
  have hx : x.i ≠ i := by
    intro e; rw [e] at hxin; exact m4 hxin
  obtain ⟨_, _, _, _, x1, _⟩ := rep_mem rr x (by rw [e1]; simp)
  have hxl : x.i ∉ ids l.xs := fun k => m5 _ k hxin
  have hsub : ∀ j ∈ ids r'.xs, j ∈ ids r.xs := fun j hj => by
    rw [e2] at hj
    rw [e1]
    simp only [ids_append, ids_cons, List.mem_append, List.mem_cons] at hj ⊢
    rcases hj with h | h
    · exact .inl h
    · exact .inr (.inr h)
  have rl' : Rep A' l := (rl.give hxl).kept hk fun j hj e => m5 j hj (hsub j e)
  have hn' : (ids (l.xs ++ ⟨i, b, n, p⟩ :: r'.xs)).Nodup := by
    have hq : l.xs ++ ⟨i, b, n, p⟩ :: r'.xs = (l.xs ++ ⟨i, b, n, p⟩ :: ys) ++ zs := by rw [e2]; simp
    rw [hq]
    rw [hn2] at hn
    exact (nodup_rem hn).1
  have hlive : 1 ≤ i ∧ i < 513 ∧ ((A.give x.i).pl i).live = true := ⟨i1, i2, by rw [give_pl (Ne.symm hx)]; exact i3⟩
  obtain ⟨T', t1, t2, t3, t4⟩ := rep_bal ((give_zero hz x1).kept hk) (h := h) (hk.pl3 hlive) rl' rr' hn'
  refine ⟨T', ⟨t1, ?_, l.xs ++ ⟨i, b, n, p⟩ :: ys, zs, hn2, by rw [t3, e2]; simp⟩, t2⟩
  rw [t3]
  exact (hk.mono fun j hj => by rw [ids_append, ids_cons]; exact List.mem_append_right _ (List.mem_cons_of_mem _ hj)).trans t4

theorem rem_noleft {A : Ar} {i : Nat} {r : Tr} {b n p : Int} (hr : Rep A (.node i .nil r b n p)) (hn : (ids (Tr.node i .nil r b n p).xs).Nodup) : Rem A (A.give i) (.node i .nil r b n p) r ⟨i, b, n, p⟩ := by
  obtain ⟨m1, m2, m3, m4, m5⟩ := nodup_parts (l := .nil) (r := r) (x := ⟨i, b, n, p⟩) hn
  exact ⟨hr.2.2.2.2.2.give m4, Kept.refl _ _, [], r.xs, rfl, rfl⟩
theorem rem_noright {A : Ar} {i : Nat} {l : Tr} {b n p : Int} (hr : Rep A (.node i l .nil b n p)) (hn : (ids (Tr.node i l .nil b n p).xs).Nodup) : Rem A (A.give i) (.node i l .nil b n p) l ⟨i, b, n, p⟩ := by
  obtain ⟨m1, m2, m3, m4, m5⟩ := nodup_parts (l := l) (r := .nil) (x := ⟨i, b, n, p⟩) hn
  exact ⟨hr.2.2.2.2.1.give m3, Kept.refl _ _, l.xs, [], rfl, by simp⟩

/-- Both branches are there: the first of the right one comes up. -/
theorem rem_both {A A' : Ar} (hz : Zero A) {i : Nat} {l r r' : Tr} {b n p h : Int} {m : Id3} (hr : Rep A (.node i l r b n p)) (hn : (ids (Tr.node i l r b n p).xs).Nodup) (hf : Fst (A.give i) A' r r' m) :
    (∃ T', Rem A (A'.bal m.i ⟨l.root, r'.root, h, m.b, m.n, m.p⟩).1 (.node i l r b n p) T' ⟨i, b, n, p⟩ ∧ (A'.bal m.i ⟨l.root, r'.root, h, m.b, m.n, m.p⟩).2 = T'.root) ∧
    ∃ l0 r0 h0, A'.get m.i = ⟨l0, r0, h0, m.b, m.n, m.p⟩ := by
  obtain ⟨m1, m2, m3, m4, m5⟩ := nodup_parts (l := l) (r := r) (x := ⟨i, b, n, p⟩) hn
  obtain ⟨f1, f2, f3⟩ := hf
  obtain ⟨i1, i2, i3, -, rl, rr⟩ := hr
  have hmr : m ∈ r.xs := by rw [f2]; exact List.mem_cons_self ..
  have hmi : m.i ≠ i := fun e => m4 (by have := mem_ids hmr; rw [e] at this; exact this)
  have hnr : (m.i :: ids r'.xs).Nodup := by rw [f2] at m2; exact m2
  have hm' : m.i ∉ ids r'.xs := (List.nodup_cons.1 hnr).1
  obtain ⟨l0, r0, h0, g1, g2, g3, g4⟩ := rep_mem (rr.give m4) m hmr
  have hsub : ∀ j ∈ ids r'.xs, j ∈ ids r.xs := fun j hj => by rw [f2]; exact List.mem_cons_of_mem _ hj
  have rl' : Rep A' l := (rl.give m3).kept f3 fun j hj e => m5 j hj (hsub j e)
  have hn' : (ids (l.xs ++ ⟨m.i, m.b, m.n, m.p⟩ :: r'.xs)).Nodup := by
    have h2 : (Tr.node i l r b n p).xs = l.xs ++ ⟨i, b, n, p⟩ :: (m :: r'.xs) := by simp only [Tr.xs]; rw [f2]
    rw [h2] at hn
    exact (nodup_rem hn).1
  obtain ⟨T', t1, t2, t3, t4⟩ := rep_bal ((give_zero hz i1).kept f3) (h := h) (f3.pl3 ⟨g2, g3, g4⟩) rl' f1 hn'
  refine ⟨⟨T', ⟨t1, ?_, l.xs, r.xs, rfl, by rw [t3, f2]⟩, t2⟩, l0, r0, h0, ?_⟩
  · rw [t3]
    exact (f3.mono fun j hj => by rw [ids_append, ids_cons]; exact List.mem_append_right _ (List.mem_cons_of_mem _ hj)).trans t4
  · rw [f3.get hm', Ar.get, if_pos (by simp [Ar.has, g3, g4])]
    exact g1
end Lo
end Go.Proofs.YtjmhkcfdmcjilaaGreat
set_option linter.unusedVariables false
set_option linter.unusedSimpArgs false
namespace Go.Proofs.YtjmhkcfdmcjilaaGreat
namespace Lo
open Go.RowKit Ai Fi

def FirstPost (w : World) (t a g cap : Nat) (A : Ar) (root : Nat) (len : Int) (T : Tr) (e : Ending) (w' : World) : Prop :=
  ∃ A' T' m, e = .returned (.tuple #[.int .u32 (Id3.i m), .int .u32 (Tr.root T')]) ∧ Tw w w' t a g cap A' root len ∧ Fst A A' T T' m

set_option maxHeartbeats 4000000 in
set_option maxRecDepth 100000 in
theorem first_ok (t a g cap : Nat) (A : Ar) (root : Nat) (len : Int) (hz : Zero A) (hL : LB A) (hH : HB A 600) :
    ∀ (T : Tr), T ≠ .nil → Rep A T → (ids T.xs).Nodup → T.xs.length ≤ 511 → ∀ w, TreeAt w t a g cap A root len →
    Calls Tryz.prog 238 #[.pointer (some ⟨t, 0, none⟩), .int .u32 T.root] w (FirstPost w t a g cap A root len T) := by
  intro T
  induction T with
  | nil => intro h; exact absurd rfl h
  | node i l r b n p ihl ihr =>
    intro _ hr hn hlen w hT
    clear ihr
    obtain ⟨m1, m2, m3, m4, m5⟩ := nodup_parts (l := l) (r := r) (x := ⟨i, b, n, p⟩) hn
    have hlen' : l.xs.length + r.xs.length + 1 ≤ 511 := by simp only [Tr.xs, List.length_append, List.length_cons] at hlen; omega
    have hi : i < 4294967296 := by have := hr.2.1; omega
    have HG := Aside.mk (fun (W : World) (h : TreeAt W t a g cap A root len) => get_ok W t a g cap A root len h i hi)
    rw [hr.get] at HG
    have TW := Aside.mk (Tw.start hT)
    have lr := hr.2.2.2.2.1.root_lt
    have rr := hr.2.2.2.2.2.root_lt
    obtain ⟨nd, hnode⟩ : ∃ nd : Nd, nd = ⟨l.root, r.root, 1 + max l.ht r.ht, b, n, p⟩ := ⟨_, rfl⟩
    rw [← hnode] at HG
    have HND := Aside.mk hnode
    have eld : nd.l = l.root := by rw [hnode]
    have erd : nd.r = r.root := by rw [hnode]
    have hnl : nd.l < 4294967296 ∧ nd.r < 4294967296 := by rw [eld, erd]; omega
    rw [Tr.root_node]
    by_cases hl0 : l = .nil
    · subst hl0
      have HB0 := Aside.mk (fst_base hr)
      have H0 := Aside.mk (show (nd.l : Int) = 0 by rw [eld]; rfl)
      have ER := Aside.mk erd
      clear hr hn hlen hlen' hT hz hL hH ihl m1 m2 m3 m4 m5 hnode eld erd lr rr
      go_enter Tryz.func238, Tryz.ntmps238
      go_upto_region 2 with (go_at_call 227; go_loud (refine (HG.out _ TW.out.tr).mono ?_; rintro e w1 ⟨rfl, hbl⟩; have TW1 := Aside.mk (TW.out.below hbl); clear TW hbl; have TW := TW1; clear TW1))
      have B9 := Aside.mk (Bx.new (w := w) w1 nd TW.out.mod.size)
      replace TW := Aside.mk (TW.out.alloc (.cells #[.int .u32 nd.l, .int .u32 nd.r, .int .i64 nd.h, .int .i64 nd.b, .int .i64 nd.n, .int .i64 nd.p] 221))
      obtain ⟨b9, hb9⟩ : ∃ b, b = w1.heap.size := ⟨_, rfl⟩
      rw [← hb9] at B9 ⊢
      clear hb9
      generalize World.alloc w1 _ = w2 at TW B9 ⊢
      obtain ⟨f0, f1, f2, f3, f4, f5, fz⟩ := B9.out.facts
      rw [H0.out] at f0
      go_upto_region 3 with fail
      go_quiet (fail)
      go_wp2_with fail
      go_ret2
      exact ⟨A, r, ⟨i, b, n, p⟩, by rw [← ER.out]; rfl, TW.out.below (below_drewN (Below.refl _ _) _), HB0.out⟩
    · have IHL := Aside.mk (ihl hl0 hr.2.2.2.2.1 m1 (by omega))
      have h0 : ¬ (nd.l : Int) = 0 := by
        rw [eld]
        have := mt hr.2.2.2.2.1.root0.1 hl0
        omega
      have HStep := Aside.mk (fun (A' : Ar) (l' : Tr) (m : Id3) (h : Int) (hf : Fst A A' l l' m) => fst_step hz (h := h) hr hn hf)
      have HBd := Aside.mk (fun (A' : Ar) (l' : Tr) (m : Id3) (hf : Fst A A' l l' m) => kept_bounds hf.2.2 hf.1 (fun j hj => hj) hL hH (by have := congrArg List.length hf.2.1; simp at this; omega))
      rw [← eld] at IHL
      clear hr hn hlen hlen' hT hz hL hH ihl m1 m2 m3 m4 m5 hnode eld erd lr rr hl0
      go_enter Tryz.func238, Tryz.ntmps238
      go_upto_region 2 with (go_at_call 227; go_loud (refine (HG.out _ TW.out.tr).mono ?_; rintro e w1 ⟨rfl, hbl⟩; have TW1 := Aside.mk (TW.out.below hbl); clear TW hbl; have TW := TW1; clear TW1))
      have B9 := Aside.mk (Bx.new (w := w) w1 nd TW.out.mod.size)
      replace TW := Aside.mk (TW.out.alloc (.cells #[.int .u32 nd.l, .int .u32 nd.r, .int .i64 nd.h, .int .i64 nd.b, .int .i64 nd.n, .int .i64 nd.p] 221))
      obtain ⟨b9, hb9⟩ : ∃ b, b = w1.heap.size := ⟨_, rfl⟩
      rw [← hb9] at B9 ⊢
      clear hb9
      generalize World.alloc w1 _ = w2 at TW B9 ⊢
      obtain ⟨f0, f1, f2, f3, f4, f5, fz⟩ := B9.out.facts
      go_upto_region 5 with (go_at_call 238; go_loud (refine (IHL.out _ TW.out.tr).mono ?_; rintro e w3 ⟨A', l', m, rfl, tw, hf⟩; have TW1 := Aside.mk (TW.out.step tw.mod tw.tr); have B91 := Aside.mk (B9.out.modB tw.mod TW.out.ltg); have HI := Aside.mk hf; clear TW B9 tw hf f0 f1 f2 f3 f4 f5 fz; have TW := TW1; have B9 := B91; clear TW1 B91; obtain ⟨f0, f1, f2, f3, f4, f5, fz⟩ := B9.out.facts))
      clear f0 f1 f2 f3 f4 f5 fz
      obtain ⟨n2, hn2⟩ : ∃ n2 : Nd, n2 = ⟨l'.root, nd.r, nd.h, nd.b, nd.n, nd.p⟩ := ⟨_, rfl⟩
      replace TW := Aside.mk (TW.out.set B9.out.hb 0 (.int .u32 l'.root))
      replace B9 := Aside.mk (B9.out.put 0 (.int .u32 l'.root) n2 (by rw [hn2]; rfl))
      generalize World.setCell _ _ _ = w6 at TW B9 ⊢
      have HN2 := Aside.mk hn2
      have hl2 : l'.root < 513 := HI.out.1.root_lt
      have hnl2 : n2.l < 4294967296 ∧ n2.r < 4294967296 := by rw [hn2]; exact ⟨by show l'.root < _; omega, hnl.2⟩
      clear hn2 hl2
      obtain ⟨bL, bH⟩ := HBd.out A' l' m HI.out
      have HBAL := Aside.mk (fun (W : World) (h : TreeAt W t a g cap A' root len) => bal_ok W t a g cap A' root len h i hi n2 hnl2 bL 600 (by omega) bH)
      clear bL bH
      unfold Nd.V at HBAL
      obtain ⟨f0, f1, f2, f3, f4, f5, fz⟩ := B9.out.facts
      go_wp2_with (go_at_call 236; go_loud (refine (HBAL.out _ TW.out.tr).mono ?_; rintro e w8 ⟨rfl, tw⟩; have TW1 := Aside.mk (TW.out.step tw.mod tw.tr); clear TW tw B9 f0 f1 f2 f3 f4 f5 fz; have TW := TW1; clear TW1))
      go_ret2
      obtain ⟨T', h1, h2⟩ := HStep.out A' l' m nd.h HI.out
      have e2 : n2 = ⟨l'.root, r.root, nd.h, b, n, p⟩ := by rw [HN2.out, HND.out]
      rw [← e2] at h1 h2
      exact ⟨_, T', m, by rw [← h2]; rfl, TW.out, h1⟩
end Lo
end Go.Proofs.YtjmhkcfdmcjilaaGreat
set_option linter.unusedVariables false
set_option linter.unusedSimpArgs false
namespace Go.Proofs.YtjmhkcfdmcjilaaGreat
namespace Lo
open Go.RowKit Ai Fi

/-- A tree that was there at w, and whose arena may have been turned since. -/
structure Ty (w W : World) (t a g cap : Nat) (A : Ar) (root : Nat) (len : Int) : Prop where
  tr : TreeAt W t a g cap A root len
  mod : ModB (fun k => k = g ∨ k = a) w W
  ltt : t < w.heap.size
  lta : a < w.heap.size
  ltg : g < w.heap.size
theorem Ty.start {w : World} {t a g cap : Nat} {A : Ar} {root : Nat} {len : Int} (h : TreeAt w t a g cap A root len) : Ty w w t a g cap A root len := ⟨h, ModB.refl _ w, h.ltt, h.ar.lta, h.ar.ltg⟩
theorem Ty.below {w W W' : World} {t a g cap : Nat} {A : Ar} {root : Nat} {len : Int} (h : Ty w W t a g cap A root len) (hb : Below W.heap.size W W') : Ty w W' t a g cap A root len := ⟨h.tr.below hb, h.mod.below1 hb, h.ltt, h.lta, h.ltg⟩
theorem Ty.alloc {w W : World} {t a g cap : Nat} {A : Ar} {root : Nat} {len : Int} (h : Ty w W t a g cap A root len) (o : Obj) : Ty w (W.alloc o) t a g cap A root len := h.below ((Below.refl _ W).alloc (Nat.le_refl _) o)
theorem Ty.step {w W W' : World} {t a g cap : Nat} {A A' : Ar} {root : Nat} {len : Int} (h : Ty w W t a g cap A root len) (hm : ModB (fun k => k = g ∨ k = a) W W') (ht : TreeAt W' t a g cap A' root len) : Ty w W' t a g cap A' root len := ⟨ht, h.mod.trans hm, h.ltt, h.lta, h.ltg⟩
theorem Ty.step1 {w W W' : World} {t a g cap : Nat} {A A' : Ar} {root : Nat} {len : Int} (h : Ty w W t a g cap A root len) (hm : ModB (· = g) W W') (ht : TreeAt W' t a g cap A' root len) : Ty w W' t a g cap A' root len := h.step (hm.mono fun _ _ e => .inl e) ht
theorem Ty.set {w W : World} {t a g cap : Nat} {A : Ar} {root : Nat} {len : Int} (h : Ty w W t a g cap A root len) {b : Nat} (hb : w.heap.size ≤ b) (j : Nat) (v : Value) : Ty w (W.setCell ⟨b, j, none⟩ v) t a g cap A root len := by
  have o : ∀ k, k < w.heap.size → (W.setCell ⟨b, j, none⟩ v).heap[k]? = W.heap[k]? := fun k hk => heap_setCell_other W ⟨b, j, none⟩ k v (by show k ≠ b; omega)
  refine ⟨h.tr.same (o t h.ltt) (o a h.lta) (o g h.ltg), ?_, h.ltt, h.lta, h.ltg⟩
  have hm := h.mod
  exact ⟨hm.os, hm.tape, hm.output, by simpa [World.setCell] using hm.size, fun k hk hS => (o k hk).trans (hm.block k hk hS)⟩
theorem Bx.modB2 {w W W' : World} {b : Nat} {x : Nd} {g a : Nat} (h : Bx w W b x) (hm : ModB (fun k => k = g ∨ k = a) W W') (hg : g < w.heap.size) (ha : a < w.heap.size) : Bx w W' b x :=
  ⟨by rw [hm.block b h.lt (by have := h.hb; omega)]; exact h.box, h.hb⟩
theorem GivePost.tree {W w' : World} {t a g cap : Nat} {A : Ar} {root : Nat} {len : Int} {i : Nat} (h : TreeAt W t a g cap A root len) (hm : ModB (fun k => k = g ∨ k = a) W w') (ha : ArAt w' a g cap (A.give i)) : TreeAt w' t a g cap (A.give i) root len :=
  ⟨by rw [hm.block t h.ltt (by have := h.na; have := h.ng; omega)]; exact h.obj, ha, h.na, h.ng⟩

def RemPost (w : World) (t a g cap : Nat) (A : Ar) (root : Nat) (len : Int) (T : Tr) (x : Id3) (e : Ending) (w' : World) : Prop :=
  ∃ A' T', e = .returned (.int .u32 (Tr.root T')) ∧ Ty w w' t a g cap A' root len ∧ Rem A A' T T' x

theorem mem_lt {i : Nat} {l r : Tr} {b n p : Int} (hs : Sorted (Tr.node i l r b n p).xs) {x : Id3} (hx : x ∈ (Tr.node i l r b n p).xs) : (x ∈ l.xs ∧ x.b < b) ∨ (x = ⟨i, b, n, p⟩) ∨ (x ∈ r.xs ∧ b < x.b) := by
  simp only [Tr.xs, List.mem_append, List.mem_cons] at hx
  have h1 := List.pairwise_append.1 hs
  rcases hx with h | rfl | h
  · exact .inl ⟨h, h1.2.2 x h _ (List.mem_cons_self ..)⟩
  · exact .inr (.inl rfl)
  · exact .inr (.inr ⟨h, (List.pairwise_cons.1 h1.2.1).1 x h⟩)

theorem rem_bounds {A A' : Ar} {T T' : Tr} {x : Id3} (h : Rem A A' T T' x) (hL : LB A) (hH : HB A 600) (hn : T.xs.length ≤ 600) : LB A' ∧ HB A' 600 := by
  obtain ⟨h1, h2, ys, zs, h3, h4⟩ := h
  refine kept_bounds h2 h1 (fun j hj => hj) (give_lb hL) (give_hb hH (by decide)) ?_
  rw [h4]
  rw [h3] at hn
  simp at hn ⊢
  omega

set_option maxHeartbeats 8000000 in
set_option maxRecDepth 100000 in
theorem remove_ok (t a g cap : Nat) (A : Ar) (root : Nat) (len : Int) (x : Id3) (hz : Zero A) (hL : LB A) (hH : HB A 600) :
    ∀ (T : Tr), Rep A T → (ids T.xs).Nodup → Sorted T.xs → x ∈ T.xs → T.xs.length ≤ 512 → ∀ w, TreeAt w t a g cap A root len →
    Calls Tryz.prog 231 #[.pointer (some ⟨t, 0, none⟩), .int .u32 T.root, .int .i64 x.b] w (RemPost w t a g cap A root len T x) := by
  intro T
  induction T with
  | nil => intro _ _ _ hx; exact absurd hx (by simp [Tr.xs])
  | node i l r b n p ihl ihr =>
    intro hr hn hs hx hlen w hT
    obtain ⟨m1, m2, m3, m4, m5⟩ := nodup_parts (l := l) (r := r) (x := ⟨i, b, n, p⟩) hn
    have hlen' : l.xs.length + r.xs.length + 1 ≤ 512 := by simp only [Tr.xs, List.length_append, List.length_cons] at hlen; omega
    have hi : i < 4294967296 := by have := hr.2.1; omega
    have HG := Aside.mk (fun (W : World) (h : TreeAt W t a g cap A root len) => get_ok W t a g cap A root len h i hi)
    rw [hr.get] at HG
    have TW := Aside.mk (Ty.start hT)
    have lr := hr.2.2.2.2.1.root_lt
    have rr := hr.2.2.2.2.2.root_lt
    have HBd := Aside.mk (fun (A' : Ar) (S S' : Tr) (hi : Rem A A' S S' x) (hl : S.xs.length ≤ 512) => rem_bounds hi hL hH (by omega))
    have HLEN := Aside.mk hlen'
    obtain ⟨nd, hnode⟩ : ∃ nd : Nd, nd = ⟨l.root, r.root, 1 + max l.ht r.ht, b, n, p⟩ := ⟨_, rfl⟩
    rw [← hnode] at HG
    have HND := Aside.mk hnode
    have ebd : nd.b = b := by rw [hnode]
    have eld : nd.l = l.root := by rw [hnode]
    have erd : nd.r = r.root := by rw [hnode]
    have hnl : nd.l < 4294967296 ∧ nd.r < 4294967296 := by rw [eld, erd]; omega
    rw [Tr.root_node]
    rcases mem_lt hs hx with ⟨hxl, hlt⟩ | hxe | ⟨hxr, hlt⟩
    · have IHL := Aside.mk (ihl hr.2.2.2.2.1 m1 hs.left hxl (by omega))
      have HLeft := Aside.mk (fun (A' : Ar) (l' : Tr) (h : Int) (hi : Rem A A' l l' x) => rem_left hz (h := h) hr hn hi)
      obtain ⟨xb, exb⟩ : ∃ xb, xb = x.b := ⟨_, rfl⟩
      rw [← exb] at IHL hlt ⊢
      rw [← eld] at IHL
      rw [← ebd] at hlt
      clear hr hn hs hx hlen hlen' hT hz hL hH ihl ihr m1 m2 m3 m4 m5 hnode eld erd ebd lr rr hxl exb
      go_enter Tryz.func231, Tryz.ntmps231
      go_upto_region 2 with (go_at_call 227; go_loud (refine (HG.out _ TW.out.tr).mono ?_; rintro e w1 ⟨rfl, hbl⟩; have TW1 := Aside.mk (TW.out.below hbl); clear TW hbl; have TW := TW1; clear TW1))
      have B9 := Aside.mk (Bx.new (w := w) w1 nd TW.out.mod.size)
      replace TW := Aside.mk (TW.out.alloc (.cells #[.int .u32 nd.l, .int .u32 nd.r, .int .i64 nd.h, .int .i64 nd.b, .int .i64 nd.n, .int .i64 nd.p] 221))
      obtain ⟨b9, hb9⟩ : ∃ b, b = w1.heap.size := ⟨_, rfl⟩
      rw [← hb9] at B9 ⊢
      clear hb9
      generalize World.alloc w1 _ = w2 at TW B9 ⊢
      obtain ⟨f0, f1, f2, f3, f4, f5, fz⟩ := B9.out.facts
      go_upto_region 4 with (go_at_call 231; go_loud (refine (IHL.out _ TW.out.tr).mono ?_; rintro e w3 ⟨A', l', rfl, tw, hrem⟩; have TW1 := Aside.mk (TW.out.step tw.mod tw.tr); have B91 := Aside.mk (B9.out.modB2 tw.mod TW.out.ltg TW.out.lta); have HI := Aside.mk hrem; clear TW B9 tw hrem f0 f1 f2 f3 f4 f5 fz; have TW := TW1; have B9 := B91; clear TW1 B91; obtain ⟨f0, f1, f2, f3, f4, f5, fz⟩ := B9.out.facts))
      clear f0 f1 f2 f3 f4 f5 fz
      obtain ⟨n2, hn2⟩ : ∃ n2 : Nd, n2 = ⟨l'.root, nd.r, nd.h, nd.b, nd.n, nd.p⟩ := ⟨_, rfl⟩
      replace TW := Aside.mk (TW.out.set B9.out.hb 0 (.int .u32 l'.root))
      replace B9 := Aside.mk (B9.out.put 0 (.int .u32 l'.root) n2 (by rw [hn2]; rfl))
      generalize World.setCell _ _ _ = w6 at TW B9 ⊢
      have HN2 := Aside.mk hn2
      have hl2 : l'.root < 513 := HI.out.1.root_lt
      have hnl2 : n2.l < 4294967296 ∧ n2.r < 4294967296 := by rw [hn2]; exact ⟨by show l'.root < _; omega, hnl.2⟩
      clear hn2 hl2
      obtain ⟨bL, bH⟩ := HBd.out A' l l' HI.out (by have := HLEN.out; omega)
      have HBAL := Aside.mk (fun (W : World) (h : TreeAt W t a g cap A' root len) => bal_ok W t a g cap A' root len h i hi n2 hnl2 bL 600 (by omega) bH)
      clear bL bH
      unfold Nd.V at HBAL
      obtain ⟨f0, f1, f2, f3, f4, f5, fz⟩ := B9.out.facts
      go_wp2_with (go_at_call 236; go_loud (refine (HBAL.out _ TW.out.tr).mono ?_; rintro e w8 ⟨rfl, tw⟩; have TW1 := Aside.mk (TW.out.step1 tw.mod tw.tr); clear TW tw B9 f0 f1 f2 f3 f4 f5 fz; have TW := TW1; clear TW1))
      go_ret
      obtain ⟨T', h1, h2⟩ := HLeft.out A' l' nd.h HI.out
      have e2 : n2 = ⟨l'.root, r.root, nd.h, b, n, p⟩ := by rw [HN2.out, HND.out]
      rw [← e2] at h1 h2
      exact ⟨_, T', by rw [← h2]; rfl, TW.out, h1⟩
    · have HGV := Aside.mk (fun (W : World) (h : ArAt W a g cap A) => give_ok W a g cap A h i hr.has)
      have hxb : x.b = nd.b := by rw [hxe, ebd]
      rw [hxb]
      have hz1 := give_zero hz hr.1
      have hL1 := give_lb (i := i) hL
      have hH1 := give_hb (i := i) hH (by decide)
      have HXE := Aside.mk hxe
      by_cases hl0 : l = .nil
      · subst hl0
        have HR := Aside.mk (rem_noleft hr hn)
        have H0 := Aside.mk (show (nd.l : Int) = 0 by rw [eld]; rfl)
        have ER := Aside.mk erd
        clear hr hn hs hx hlen hlen' hT hz hL hH hz1 hL1 hH1 ihl ihr m1 m2 m3 m4 m5 hnode eld erd ebd lr rr hxe hxb
        go_enter Tryz.func231, Tryz.ntmps231
        go_upto_region 2 with (go_at_call 227; go_loud (refine (HG.out _ TW.out.tr).mono ?_; rintro e w1 ⟨rfl, hbl⟩; have TW1 := Aside.mk (TW.out.below hbl); clear TW hbl; have TW := TW1; clear TW1))
        have B9 := Aside.mk (Bx.new (w := w) w1 nd TW.out.mod.size)
        replace TW := Aside.mk (TW.out.alloc (.cells #[.int .u32 nd.l, .int .u32 nd.r, .int .i64 nd.h, .int .i64 nd.b, .int .i64 nd.n, .int .i64 nd.p] 221))
        obtain ⟨b9, hb9⟩ : ∃ b, b = w1.heap.size := ⟨_, rfl⟩
        rw [← hb9] at B9 ⊢
        clear hb9
        generalize World.alloc w1 _ = w2 at TW B9 ⊢
        obtain ⟨f0, f1, f2, f3, f4, f5, fz⟩ := B9.out.facts
        obtain ⟨k0, -, -⟩ := TW.out.tr.cells
        go_upto_region 9 with (go_at_call 237; go_loud (refine (HGV.out _ TW.out.tr.ar).mono ?_; rintro e w3 ⟨rfl, hm, ha⟩; have TW1 := Aside.mk (TW.out.step hm (GivePost.tree TW.out.tr hm ha)); have B91 := Aside.mk (B9.out.modB2 hm TW.out.ltg TW.out.lta); clear TW B9 hm ha f0 f1 f2 f3 f4 f5 fz k0; have TW := TW1; have B9 := B91; clear TW1 B91; obtain ⟨f0, f1, f2, f3, f4, f5, fz⟩ := B9.out.facts))
        rw [H0.out] at f0
        go_wp2_with fail
        go_ret
        exact ⟨_, r, by rw [← ER.out]; rfl, TW.out, by rw [HXE.out]; exact HR.out⟩
      · have h0 : ¬ (nd.l : Int) = 0 := by
          rw [eld]
          have := mt hr.2.2.2.2.1.root0.1 hl0
          omega
        by_cases hr0 : r = .nil
        · subst hr0
          have HR := Aside.mk (rem_noright hr hn)
          have H0 := Aside.mk (show (nd.r : Int) = 0 by rw [erd]; rfl)
          have ER := Aside.mk eld
          clear hr hn hs hx hlen hlen' hT hz hL hH hz1 hL1 hH1 ihl ihr m1 m2 m3 m4 m5 hnode eld erd ebd lr rr hxe hxb hl0
          go_enter Tryz.func231, Tryz.ntmps231
          go_upto_region 2 with (go_at_call 227; go_loud (refine (HG.out _ TW.out.tr).mono ?_; rintro e w1 ⟨rfl, hbl⟩; have TW1 := Aside.mk (TW.out.below hbl); clear TW hbl; have TW := TW1; clear TW1))
          have B9 := Aside.mk (Bx.new (w := w) w1 nd TW.out.mod.size)
          replace TW := Aside.mk (TW.out.alloc (.cells #[.int .u32 nd.l, .int .u32 nd.r, .int .i64 nd.h, .int .i64 nd.b, .int .i64 nd.n, .int .i64 nd.p] 221))
          obtain ⟨b9, hb9⟩ : ∃ b, b = w1.heap.size := ⟨_, rfl⟩
          rw [← hb9] at B9 ⊢
          clear hb9
          generalize World.alloc w1 _ = w2 at TW B9 ⊢
          obtain ⟨f0, f1, f2, f3, f4, f5, fz⟩ := B9.out.facts
          obtain ⟨k0, -, -⟩ := TW.out.tr.cells
          go_upto_region 9 with (go_at_call 237; go_loud (refine (HGV.out _ TW.out.tr.ar).mono ?_; rintro e w3 ⟨rfl, hm, ha⟩; have TW1 := Aside.mk (TW.out.step hm (GivePost.tree TW.out.tr hm ha)); have B91 := Aside.mk (B9.out.modB2 hm TW.out.ltg TW.out.lta); clear TW B9 hm ha f0 f1 f2 f3 f4 f5 fz k0; have TW := TW1; have B9 := B91; clear TW1 B91; obtain ⟨f0, f1, f2, f3, f4, f5, fz⟩ := B9.out.facts))
          rw [H0.out] at f1
          go_wp2_with fail
          go_ret
          exact ⟨_, l, by rw [← ER.out]; rfl, TW.out, by rw [HXE.out]; exact HR.out⟩
        · have h1 : ¬ (nd.r : Int) = 0 := by
            rw [erd]
            have := mt hr.2.2.2.2.2.root0.1 hr0
            omega
          have HF := Aside.mk (first_ok t a g cap (A.give i) root len hz1 hL1 hH1 r hr0 (hr.2.2.2.2.2.give m4) m2 (by omega))
          have HBoth := Aside.mk (fun (A' : Ar) (r' : Tr) (m : Id3) (h : Int) (hf : Fst (A.give i) A' r r' m) => rem_both hz (h := h) hr hn hf)
          have HBF := Aside.mk (fun (A' : Ar) (l' : Tr) (m : Id3) (hf : Fst (A.give i) A' r l' m) => kept_bounds hf.2.2 hf.1 (fun j hj => hj) hL1 hH1 (by have := congrArg List.length hf.2.1; simp at this; omega))
          have HMem := Aside.mk (fun (A' : Ar) (l' : Tr) (m : Id3) (hf : Fst (A.give i) A' r l' m) => rep_mem hr.2.2.2.2.2 m (by rw [hf.2.1]; exact List.mem_cons_self ..))
          rw [← erd] at HF
          have ELD := Aside.mk eld
          clear hr hn hs hx hlen hlen' hT hz hL hH hz1 hL1 hH1 ihl ihr m1 m2 m3 m4 m5 hnode eld erd ebd lr rr hxe hxb hl0 hr0
          go_enter Tryz.func231, Tryz.ntmps231
          go_upto_region 2 with (go_at_call 227; go_loud (refine (HG.out _ TW.out.tr).mono ?_; rintro e w1 ⟨rfl, hbl⟩; have TW1 := Aside.mk (TW.out.below hbl); clear TW hbl; have TW := TW1; clear TW1))
          have B9 := Aside.mk (Bx.new (w := w) w1 nd TW.out.mod.size)
          replace TW := Aside.mk (TW.out.alloc (.cells #[.int .u32 nd.l, .int .u32 nd.r, .int .i64 nd.h, .int .i64 nd.b, .int .i64 nd.n, .int .i64 nd.p] 221))
          obtain ⟨b9, hb9⟩ : ∃ b, b = w1.heap.size := ⟨_, rfl⟩
          rw [← hb9] at B9 ⊢
          clear hb9
          generalize World.alloc w1 _ = w2 at TW B9 ⊢
          obtain ⟨f0, f1, f2, f3, f4, f5, fz⟩ := B9.out.facts
          obtain ⟨k0, -, -⟩ := TW.out.tr.cells
          go_upto_region 9 with (go_at_call 237; go_loud (refine (HGV.out _ TW.out.tr.ar).mono ?_; rintro e w3 ⟨rfl, hm, ha⟩; have TW1 := Aside.mk (TW.out.step hm (GivePost.tree TW.out.tr hm ha)); have B91 := Aside.mk (B9.out.modB2 hm TW.out.ltg TW.out.lta); clear TW B9 hm ha f0 f1 f2 f3 f4 f5 fz k0; have TW := TW1; have B9 := B91; clear TW1 B91; obtain ⟨f0, f1, f2, f3, f4, f5, fz⟩ := B9.out.facts))
          go_upto_region 14 with (go_at_call 238; go_loud (refine (HF.out _ TW.out.tr).mono ?_; rintro e w4 ⟨A', r', m, rfl, tw, hf⟩; have TW1 := Aside.mk (TW.out.step1 tw.mod tw.tr); have B91 := Aside.mk (B9.out.modB tw.mod TW.out.ltg); have HI := Aside.mk hf; clear TW B9 tw hf f0 f1 f2 f3 f4 f5 fz; have TW := TW1; have B9 := B91; clear TW1 B91; obtain ⟨f0, f1, f2, f3, f4, f5, fz⟩ := B9.out.facts))
          obtain ⟨l0, r0, h0', hgm⟩ := (HBoth.out A' r' m 0 HI.out).2
          have hmi : m.i < 4294967296 := by obtain ⟨_, _, _, _, _, h, _⟩ := HMem.out A' r' m HI.out; omega
          have HG2 := Aside.mk (fun (W : World) (h : TreeAt W t a g cap A' root len) => get_ok W t a g cap A' root len h m.i hmi)
          rw [hgm] at HG2
          clear hgm
          obtain ⟨md, hmd⟩ : ∃ md : Nd, md = ⟨l0, r0, h0', m.b, m.n, m.p⟩ := ⟨_, rfl⟩
          rw [← hmd] at HG2
          have HMD := Aside.mk hmd
          clear hmd
          go_upto_region 15 with (go_at_call 227; go_loud (refine (HG2.out _ TW.out.tr).mono ?_; rintro e w5 ⟨rfl, hbl⟩; have TW1 := Aside.mk (TW.out.below hbl); have B91 := Aside.mk (B9.out.below hbl); clear TW hbl B9 f0 f1 f2 f3 f4 f5 fz; have TW := TW1; have B9 := B91; clear TW1 B91))
          have B10 := Aside.mk (Bx.new (w := w) w5 md TW.out.mod.size)
          have hne : b9 ≠ w5.heap.size := Nat.ne_of_lt B9.out.lt
          replace TW := Aside.mk (TW.out.alloc (.cells #[.int .u32 md.l, .int .u32 md.r, .int .i64 md.h, .int .i64 md.b, .int .i64 md.n, .int .i64 md.p] 221))
          replace B9 := Aside.mk (B9.out.alloc (.cells #[.int .u32 md.l, .int .u32 md.r, .int .i64 md.h, .int .i64 md.b, .int .i64 md.n, .int .i64 md.p] 221))
          obtain ⟨b10, hb10⟩ : ∃ b, b = w5.heap.size := ⟨_, rfl⟩
          rw [← hb10] at B10 hne ⊢
          clear hb10
          generalize World.alloc w5 _ = w6 at TW B9 B10 ⊢
          obtain ⟨f0, f1, f2, f3, f4, f5, fz⟩ := B9.out.facts
          obtain ⟨q0, q1, q2, q3, q4, q5, qz⟩ := B10.out.facts
          go_upto_region 16 with fail
          clear f0 f1 f2 f3 f4 f5 fz q0 q1 q2 q3 q4 q5 qz
          obtain ⟨n1, hn1⟩ : ∃ n1 : Nd, n1 = ⟨nd.l, md.r, md.h, md.b, md.n, md.p⟩ := ⟨_, rfl⟩
          obtain ⟨n2, hn2⟩ : ∃ n2 : Nd, n2 = ⟨nd.l, r'.root, md.h, md.b, md.n, md.p⟩ := ⟨_, rfl⟩
          replace TW := Aside.mk ((TW.out.set B10.out.hb 0 (.int .u32 nd.l)).set B10.out.hb 1 (.int .u32 r'.root))
          replace B10 := Aside.mk ((B10.out.put 0 (.int .u32 nd.l) n1 (by rw [hn1]; rfl)).put 1 (.int .u32 r'.root) n2 (by rw [hn2, hn1]; rfl))
          generalize World.setCell _ _ _ = w7 at TW B10 ⊢
          have HN2 := Aside.mk hn2
          have hl2 : r'.root < 513 := HI.out.1.root_lt
          have hnl2 : n2.l < 4294967296 ∧ n2.r < 4294967296 := by rw [hn2]; exact ⟨hnl.1, by show r'.root < _; omega⟩
          clear hn2 hn1 hl2
          obtain ⟨bL, bH⟩ := HBF.out A' r' m HI.out
          have HBAL := Aside.mk (fun (W : World) (h : TreeAt W t a g cap A' root len) => bal_ok W t a g cap A' root len h m.i hmi n2 hnl2 bL 600 (by omega) bH)
          clear bL bH
          unfold Nd.V at HBAL
          obtain ⟨q0, q1, q2, q3, q4, q5, qz⟩ := B10.out.facts
          go_wp2_with (go_at_call 236; go_loud (refine (HBAL.out _ TW.out.tr).mono ?_; rintro e w8 ⟨rfl, tw⟩; have TW1 := Aside.mk (TW.out.step1 tw.mod tw.tr); clear TW tw B10 q0 q1 q2 q3 q4 q5 qz; have TW := TW1; clear TW1))
          go_ret
          obtain ⟨T', h1, h2⟩ := (HBoth.out A' r' m md.h HI.out).1
          have e2 : n2 = ⟨l.root, r'.root, md.h, m.b, m.n, m.p⟩ := by rw [HN2.out, HMD.out, ELD.out]
          rw [← e2] at h1 h2
          exact ⟨_, T', by rw [← h2]; rfl, TW.out, by rw [HXE.out]; exact h1⟩
    · have IHR := Aside.mk (ihr hr.2.2.2.2.2 m2 hs.right hxr (by omega))
      have HRight := Aside.mk (fun (A' : Ar) (l' : Tr) (h : Int) (hi : Rem A A' r l' x) => rem_right hz (h := h) hr hn hi)
      obtain ⟨xb, exb⟩ : ∃ xb, xb = x.b := ⟨_, rfl⟩
      rw [← exb] at IHR hlt ⊢
      rw [← erd] at IHR
      rw [← ebd] at hlt
      clear hr hn hs hx hlen hlen' hT hz hL hH ihl ihr m1 m2 m3 m4 m5 hnode eld erd ebd lr rr hxr exb
      go_enter Tryz.func231, Tryz.ntmps231
      go_upto_region 2 with (go_at_call 227; go_loud (refine (HG.out _ TW.out.tr).mono ?_; rintro e w1 ⟨rfl, hbl⟩; have TW1 := Aside.mk (TW.out.below hbl); clear TW hbl; have TW := TW1; clear TW1))
      have B9 := Aside.mk (Bx.new (w := w) w1 nd TW.out.mod.size)
      replace TW := Aside.mk (TW.out.alloc (.cells #[.int .u32 nd.l, .int .u32 nd.r, .int .i64 nd.h, .int .i64 nd.b, .int .i64 nd.n, .int .i64 nd.p] 221))
      obtain ⟨b9, hb9⟩ : ∃ b, b = w1.heap.size := ⟨_, rfl⟩
      rw [← hb9] at B9 ⊢
      clear hb9
      generalize World.alloc w1 _ = w2 at TW B9 ⊢
      obtain ⟨f0, f1, f2, f3, f4, f5, fz⟩ := B9.out.facts
      go_upto_region 7 with (go_at_call 231; go_loud (refine (IHR.out _ TW.out.tr).mono ?_; rintro e w3 ⟨A', l', rfl, tw, hrem⟩; have TW1 := Aside.mk (TW.out.step tw.mod tw.tr); have B91 := Aside.mk (B9.out.modB2 tw.mod TW.out.ltg TW.out.lta); have HI := Aside.mk hrem; clear TW B9 tw hrem f0 f1 f2 f3 f4 f5 fz; have TW := TW1; have B9 := B91; clear TW1 B91; obtain ⟨f0, f1, f2, f3, f4, f5, fz⟩ := B9.out.facts))
      clear f0 f1 f2 f3 f4 f5 fz
      obtain ⟨n2, hn2⟩ : ∃ n2 : Nd, n2 = ⟨nd.l, l'.root, nd.h, nd.b, nd.n, nd.p⟩ := ⟨_, rfl⟩
      replace TW := Aside.mk (TW.out.set B9.out.hb 1 (.int .u32 l'.root))
      replace B9 := Aside.mk (B9.out.put 1 (.int .u32 l'.root) n2 (by rw [hn2]; rfl))
      generalize World.setCell _ _ _ = w6 at TW B9 ⊢
      have HN2 := Aside.mk hn2
      have hl2 : l'.root < 513 := HI.out.1.root_lt
      have hnl2 : n2.l < 4294967296 ∧ n2.r < 4294967296 := by rw [hn2]; exact ⟨hnl.1, by show l'.root < _; omega⟩
      clear hn2 hl2
      obtain ⟨bL, bH⟩ := HBd.out A' r l' HI.out (by have := HLEN.out; omega)
      have HBAL := Aside.mk (fun (W : World) (h : TreeAt W t a g cap A' root len) => bal_ok W t a g cap A' root len h i hi n2 hnl2 bL 600 (by omega) bH)
      clear bL bH
      unfold Nd.V at HBAL
      obtain ⟨f0, f1, f2, f3, f4, f5, fz⟩ := B9.out.facts
      go_wp2_with (go_at_call 236; go_loud (refine (HBAL.out _ TW.out.tr).mono ?_; rintro e w8 ⟨rfl, tw⟩; have TW1 := Aside.mk (TW.out.step1 tw.mod tw.tr); clear TW tw B9 f0 f1 f2 f3 f4 f5 fz; have TW := TW1; clear TW1))
      go_ret
      obtain ⟨T', h1, h2⟩ := HRight.out A' l' nd.h HI.out
      have e2 : n2 = ⟨l.root, l'.root, nd.h, b, n, p⟩ := by rw [HN2.out, HND.out]
      rw [← e2] at h1 h2
      exact ⟨_, T', by rw [← h2]; rfl, TW.out, h1⟩
end Lo
end Go.Proofs.YtjmhkcfdmcjilaaGreat
