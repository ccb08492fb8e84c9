/-
  Walks of the tree: Find, Insert, Delete.
-/
import Derived.Test.YtjmhkcfdmcjilaaGreatLoK
import Derived.Deep.LoopGhost
import Derived.Test.YtjmhkcfdmcjilaaGreatLoG
/- Walks of the tree: Floor, Ceil, Find. -/
set_option linter.unusedVariables false
set_option linter.unusedSimpArgs false
namespace Go.Proofs.YtjmhkcfdmcjilaaGreat
namespace Lo
open Go.RowKit Ai Fi

/-- The last run that begins at a sector or ahead of it; the first that begins there or behind. -/
def floorL (xs : List Id3) (s : Int) : Option Id3 := (xs.filter fun x => decide (x.b ≤ s)).getLast?
def ceilL (xs : List Id3) (s : Int) : Option Id3 := (xs.filter fun x => decide (s ≤ x.b)).head?
def o3 : Option Id3 → Op3
  | none => ⟨0, 0, 0⟩
  | some x => ⟨x.b, x.n, x.p⟩

theorem floorL_in {l r : List Id3} {x : Id3} {s : Int} (h : x.b ≤ s) : floorL (l ++ x :: r) s = (floorL r s).or (some x) := by
  unfold floorL
  rw [List.filter_append, List.filter_cons_of_pos (by simpa using h), List.getLast?_append, List.getLast?_cons]
  cases (List.filter (fun x => decide (x.b ≤ s)) r).getLast? <;> simp
theorem floorL_out {l r : List Id3} {x : Id3} {s : Int} (h : ¬ x.b ≤ s) (hr : ∀ y ∈ r, x.b < y.b) : floorL (l ++ x :: r) s = floorL l s := by
  unfold floorL
  have e : List.filter (fun y => decide (y.b ≤ s)) r = [] := List.filter_eq_nil_iff.2 (fun y hy => by have := hr y hy; simp; omega)
  rw [List.filter_append, List.filter_cons_of_neg (by simpa using h), e, List.append_nil]
theorem ceilL_in {l r : List Id3} {x : Id3} {s : Int} (h : s ≤ x.b) : ceilL (l ++ x :: r) s = (ceilL l s).or (some x) := by
  unfold ceilL
  rw [List.filter_append, List.filter_cons_of_pos (by simpa using h), List.head?_append]
  cases (List.filter (fun x => decide (s ≤ x.b)) l).head? <;> simp
theorem ceilL_out {l r : List Id3} {x : Id3} {s : Int} (h : ¬ s ≤ x.b) (hl : ∀ y ∈ l, y.b < x.b) : ceilL (l ++ x :: r) s = ceilL r s := by
  unfold ceilL
  have e : List.filter (fun y => decide (s ≤ y.b)) l = [] := List.filter_eq_nil_iff.2 (fun y hy => by have := hl y hy; simp; omega)
  rw [List.filter_append, List.filter_cons_of_neg (by simpa using h), e, List.nil_append]

/-- A run in a box that was made since w. -/
structure Rx (w W : World) (c : Nat) (x : Op3) : Prop where
  box : W.heap[c]? = some (.cells #[.int .i64 x.l, .int .i64 x.n, .int .i64 x.p] 94 (0, 0))
  hb : w.heap.size ≤ c
theorem Rx.lt {w W : World} {c : Nat} {x : Op3} (h : Rx w W c x) : c < W.heap.size := (Array.getElem?_eq_some_iff.1 h.box).1
theorem Rx.below {w W W' : World} {c : Nat} {x : Op3} (h : Rx w W c x) (hb : Below W.heap.size W W') : Rx w W' c x := ⟨by rw [hb.block c h.lt]; exact h.box, h.hb⟩
theorem Rx.alloc {w W : World} {c : Nat} {x : Op3} (h : Rx w W c x) (o : Obj) : Rx w (W.alloc o) c x := h.below ((Below.refl _ W).alloc (Nat.le_refl _) o)
theorem Rx.modB {w W W' : World} {c : Nat} {x : Op3} {S : Nat → Prop} (h : Rx w W c x) (hm : ModB S W W') (hS : ∀ k, S k → k < w.heap.size) : Rx w W' c x :=
  ⟨by rw [hm.block c h.lt (fun k => by have := hS _ k; have := h.hb; omega)]; exact h.box, h.hb⟩
theorem Rx.facts {w W : World} {c : Nat} {x : Op3} (h : Rx w W c x) : W.cell? ⟨c, 0, none⟩ = some (.int .i64 x.l) ∧ W.cell? ⟨c, 1, none⟩ = some (.int .i64 x.n) ∧ W.cell? ⟨c, 2, none⟩ = some (.int .i64 x.p) ∧
    W.frozen? ⟨c, 0, none⟩ = false ∧ W.frozen? ⟨c, 1, none⟩ = false ∧ W.frozen? ⟨c, 2, none⟩ = false :=
  ⟨by rw [cell_of_row _ _ _ _ _ _ h.box]; rfl, by rw [cell_of_row _ _ _ _ _ _ h.box]; rfl, by rw [cell_of_row _ _ _ _ _ _ h.box]; rfl, by simp [World.frozen?, h.box], by simp [World.frozen?, h.box], by simp [World.frozen?, h.box]⟩
theorem Rx.put {w W : World} {c : Nat} {x : Op3} (h : Rx w W c x) (y : Op3) : Rx w (((W.setCell ⟨c, 0, none⟩ (.int .i64 y.l)).setCell ⟨c, 1, none⟩ (.int .i64 y.n)).setCell ⟨c, 2, none⟩ (.int .i64 y.p)) c y := by
  refine ⟨?_, h.hb⟩
  rw [heap_setCell_same _ c 2 _ 94 _ (heap_setCell_same _ c 1 _ 94 _ (heap_setCell_same _ c 0 _ 94 _ h.box))]
  rfl
theorem below_put3 {w W : World} {c : Nat} (h : Below w.heap.size w W) (hc : w.heap.size ≤ c) (u v z : Value) : Below w.heap.size w (((W.setCell ⟨c, 0, none⟩ u).setCell ⟨c, 1, none⟩ v).setCell ⟨c, 2, none⟩ z) :=
  ((h.setCell (p := ⟨c, 0, none⟩) hc u).setCell (p := ⟨c, 1, none⟩) hc v).setCell (p := ⟨c, 2, none⟩) hc z
theorem Bx.box3 {w W : World} {b : Nat} {x : Nd} (h : Bx w W b x) {c : Nat} (hc : b ≠ c) (u v z : Value) : Bx w (((W.setCell ⟨c, 0, none⟩ u).setCell ⟨c, 1, none⟩ v).setCell ⟨c, 2, none⟩ z) b x :=
  ((h.other 0 u hc).other 1 v hc).other 2 z hc

def floorPost (w : World) (r : Option Id3) (e : Ending) (w' : World) : Prop := e = .returned (.tuple #[.agg #[.int .i64 (o3 r).l, .int .i64 (o3 r).n, .int .i64 (o3 r).p], .bool r.isSome]) ∧ Below w.heap.size w w'

set_option maxHeartbeats 4000000 in
set_option maxRecDepth 100000 in
theorem floor_ok (w : World) (t a g cap : Nat) (A : Ar) (len : Int) (T : Tr) (hr : Rep A T) (hs : Sorted T.xs) (hT : TreeAt w t a g cap A T.root len) (s : Int) :
    Calls Tryz.prog 220 #[.pointer (some ⟨t, 0, none⟩), .int .i64 s] w (floorPost w (floorL T.xs s)) := by
  have HT := Aside.mk hT
  have HRS := Aside.mk (And.intro hr hs)
  have HB0 := Aside.mk ((Below.refl w.heap.size w).alloc (Nat.le_refl _) (.cells #[.int .i64 0, .int .i64 0, .int .i64 0] 94))
  have HX0 := Aside.mk (show Rx w (w.alloc (.cells #[.int .i64 0, .int .i64 0, .int .i64 0] 94)) w.heap.size (o3 none) from ⟨heap_alloc_new w _, Nat.le_refl _⟩)
  have HG := Aside.mk (fun (W : World) (h : Below w.heap.size w W) (j : Nat) (hj : j < 4294967296) => get_ok W t a g cap A T.root len (hT.below h) j hj)
  obtain ⟨c0, c1, -⟩ := hT.cells
  have hlt := hT.ltt
  obtain ⟨res, hres⟩ : ∃ res, res = floorL T.xs s := ⟨_, rfl⟩
  rw [← hres]
  have HRES := Aside.mk hres
  clear hr hs hT hres
  go_enter Tryz.func220, Tryz.ntmps220
  go_wp2_with fail
  obtain ⟨c, hc⟩ : ∃ c, c = w.heap.size := ⟨_, rfl⟩
  rw [← hc] at HX0 ⊢
  have HC := Aside.mk hc
  generalize World.alloc w _ = w1 at HB0 HX0 ⊢
  clear c0 c1 hlt hc
  go_loopg [5, 6] T.xs.length (fun k v5 v6 wr => ∃ (S : Tr) (r0 : Option Id3) (id : Nat), v6 = .int .u32 id ∧ v5 = .bool r0.isSome ∧ Ai.Aside (id = S.root ∧ k = S.xs.length ∧ Rep A S ∧ Sorted S.xs ∧ res = (floorL S.xs s).or r0 ∧ Rx w wr c (o3 r0) ∧ Below w.heap.size w wr))
  case atStart => exact ⟨T, none, T.root, rfl, rfl, ⟨rfl, rfl, HRS.out.1, HRS.out.2, by rw [HRES.out]; simp, HX0.out, HB0.out⟩⟩
  case round =>
    obtain ⟨S, r0, id, rfl, rfl, HR⟩ := hrel
    by_cases hS : S = .nil
    · have H0 : (id : Int) = 0 := by rw [HR.out.1, hS]; rfl
      have HRX := Aside.mk HR.out.2.2.2.2.2.1
      have HE := Aside.mk (show res = r0 by have h := HR.out.2.2.2.2.1; rw [hS] at h; simpa [floorL, Tr.xs] using h)
      have HBB := Aside.mk HR.out.2.2.2.2.2.2
      have H0 := Aside.mk H0
      clear hS HR HX0 HB0
      obtain ⟨f0, f1, f2, z0, z1, z2⟩ := HRX.out.facts
      rw [H0.out]
      obtain ⟨y, hy⟩ : ∃ y, y = o3 r0 := ⟨_, rfl⟩
      rw [← hy] at f0 f1 f2 HRX
      have HY := Aside.mk hy
      clear hy
      go_upto_region 8 with fail
      rename_i K hK
      apply wp_region_lit
      have HRG : wr.rangeAt c 0 [.int .i64 y.l, .int .i64 y.n, .int .i64 y.p] := fun j v hj => by
        rcases j with _ | _ | _ | j <;> first | (simp only [List.getElem?_cons_zero, List.getElem?_cons_succ, Option.some.injEq] at hj; subst hj; simpa using (by assumption)) | (simp at hj)
      have HTH : wr.there c 0 3 := fun j hj => by
        rcases j with _ | _ | _ | j <;> first | (simp [*]; done) | omega
      refine wpList_load_mid rfl 94 (.tmp 4) rfl c 0 (by kernel_rfl) [.int .i64 y.l, .int .i64 y.n, .int .i64 y.p] _ HRG Tryz.underlying94 rfl (by kernel_rfl) ?_
      refine wpList_plain rfl (fun K1 hK1 => BigFrame.wp_move _ rfl (hK1 _ _ ?_))
      refine wpList_store_mid rfl 94 (.tmp 4) (.tmp 28) rfl c 0 [Value.int .i64 y.l, .int .i64 y.n, .int .i64 y.p].toArray (by kernel_rfl) (by kernel_rfl) HTH (by kernel_rfl) (all_oneCell_toArray (by simp [Value.oneCell'])) ?_
      refine wpList_plain rfl (fun K1 hK1 => BigFrame.wp_assign _ rfl (hK1 _ _ (wpList_nil ?_)))
      refine hK _ _ (wp_ret ?_)
      refine bodyPost_ret (res_cell_tmp (p := 4) (q := 5) (ty := 94) rfl _ _ c [.int .i64 y.l, .int .i64 y.n, .int .i64 y.p] _ (by kernel_rfl) (World.rangeAt_setCells_same _ _ _ _ HTH) Tryz.underlying94 rfl (by kernel_rfl)) (by kernel_rfl) ?_
      exact ⟨by rw [HE.out, ← HY.out]; rfl, below_setCells (by rw [HC.out]; exact Nat.le_refl _) _ _ HBB.out⟩
    · obtain ⟨i, l, r, b, n, p, rfl⟩ : ∃ i l r b n p, S = .node i l r b n p := by cases S with | nil => exact absurd rfl hS | node i l r b n p => exact ⟨i, l, r, b, n, p, rfl⟩
      clear hS HX0 HB0
      obtain ⟨e1, e2, e3, e4, e5, e6, e7⟩ := HR.out
      have e1' : id = i := e1
      clear e1
      subst e1'
      have hid : id < 4294967296 := by have := e3.2.1; omega
      have h0 : ¬ (id : Int) = 0 := by have := e3.1; omega
      have HG1 := Aside.mk (HG.out wr e7 id hid)
      rw [e3.get] at HG1
      obtain ⟨nd, hnode⟩ : ∃ nd : Nd, nd = ⟨l.root, r.root, 1 + max l.ht r.ht, b, n, p⟩ := ⟨_, rfl⟩
      rw [← hnode] at HG1
      have HND := Aside.mk hnode
      have HRX := Aside.mk e6
      have HBB := Aside.mk e7
      have ebd : nd.b = b := by rw [hnode]
      have eld : nd.l = l.root := by rw [hnode]
      have erd : nd.r = r.root := by rw [hnode]
      have HE := Aside.mk (And.intro ebd (And.intro eld erd))
      have HL := Aside.mk (And.intro e2 (And.intro e3 (And.intro e4 e5)))
      clear e2 e3 e4 e5 e6 e7 hnode ebd eld erd HR
      by_cases hb : nd.b ≤ s
      · go_upto_region 4 with (go_at_call 227; go_loud (refine HG1.out.mono ?_; rintro e w3 ⟨rfl, hbl⟩; have HRX1 := Aside.mk (HRX.out.below hbl); have HBB1 := Aside.mk (HBB.out.trans (hbl.mono HBB.out.size)); clear hbl HRX HBB; have HRX := HRX1; have HBB := HBB1; clear HRX1 HBB1))
        have B7 := Aside.mk (Bx.new (w := w) w3 nd HBB.out.size)
        have hne : w3.heap.size ≠ c := Nat.ne_of_gt HRX.out.lt
        replace HRX := Aside.mk (HRX.out.alloc (.cells #[.int .u32 nd.l, .int .u32 nd.r, .int .i64 nd.h, .int .i64 nd.b, .int .i64 nd.n, .int .i64 nd.p] 221))
        replace HBB := Aside.mk (HBB.out.alloc HBB.out.size (.cells #[.int .u32 nd.l, .int .u32 nd.r, .int .i64 nd.h, .int .i64 nd.b, .int .i64 nd.n, .int .i64 nd.p] 221))
        obtain ⟨b7, hb7⟩ : ∃ b, b = w3.heap.size := ⟨_, rfl⟩
        rw [← hb7] at B7 hne ⊢
        clear hb7
        generalize World.alloc w3 _ = w4 at HRX HBB B7 ⊢
        obtain ⟨f0, f1, f2, z0, z1, z2⟩ := HRX.out.facts
        obtain ⟨m0, m1, m2, m3, m4, m5, mz⟩ := B7.out.facts
        go_upto_region 6 with fail
        clear f0 f1 f2 z0 z1 z2 m0 m1 m2 m3 m4 m5 mz
        replace HBB := Aside.mk (below_put3 (c := c) HBB.out (by rw [HC.out]; exact Nat.le_refl _) (.int .i64 nd.b) (.int .i64 nd.n) (.int .i64 nd.p))
        replace B7 := Aside.mk (B7.out.box3 hne (.int .i64 nd.b) (.int .i64 nd.n) (.int .i64 nd.p))
        replace HRX := Aside.mk (HRX.out.put ⟨nd.b, nd.n, nd.p⟩)
        generalize World.setCell _ _ _ = w5 at HRX HBB B7 ⊢
        obtain ⟨m0, m1, m2, m3, m4, m5, mz⟩ := B7.out.facts
        go_wp2_with fail
        go_roundg r.xs.length
        case rel =>
          obtain ⟨e2, e3, e4, e5⟩ := HL.out
          refine ⟨r, some ⟨id, b, n, p⟩, nd.r, rfl, rfl, ⟨by rw [HND.out], rfl, e3.2.2.2.2.2, e4.right, ?_, ?_, HBB.out⟩⟩
          · rw [e5]
            simp only [Tr.xs]
            rw [floorL_in (by simpa [HE.out.1] using hb)]
            cases floorL r.xs s <;> rfl
          · have e : o3 (some ⟨id, b, n, p⟩) = ⟨nd.b, nd.n, nd.p⟩ := by rw [HND.out]; rfl
            rw [e]
            exact HRX.out
        case measure =>
          rw [HL.out.1]
          simp only [Tr.xs, List.length_append, List.length_cons]
          omega
      · go_upto_region 4 with (go_at_call 227; go_loud (refine HG1.out.mono ?_; rintro e w3 ⟨rfl, hbl⟩; have HRX1 := Aside.mk (HRX.out.below hbl); have HBB1 := Aside.mk (HBB.out.trans (hbl.mono HBB.out.size)); clear hbl HRX HBB; have HRX := HRX1; have HBB := HBB1; clear HRX1 HBB1))
        have B7 := Aside.mk (Bx.new (w := w) w3 nd HBB.out.size)
        replace HRX := Aside.mk (HRX.out.alloc (.cells #[.int .u32 nd.l, .int .u32 nd.r, .int .i64 nd.h, .int .i64 nd.b, .int .i64 nd.n, .int .i64 nd.p] 221))
        replace HBB := Aside.mk (HBB.out.alloc HBB.out.size (.cells #[.int .u32 nd.l, .int .u32 nd.r, .int .i64 nd.h, .int .i64 nd.b, .int .i64 nd.n, .int .i64 nd.p] 221))
        obtain ⟨b7, hb7⟩ : ∃ b, b = w3.heap.size := ⟨_, rfl⟩
        rw [← hb7] at B7 ⊢
        clear hb7
        generalize World.alloc w3 _ = w4 at HRX HBB B7 ⊢
        obtain ⟨m0, m1, m2, m3, m4, m5, mz⟩ := B7.out.facts
        go_wp2_with fail
        go_roundg l.xs.length
        case rel =>
          obtain ⟨e2, e3, e4, e5⟩ := HL.out
          refine ⟨l, r0, nd.l, rfl, rfl, ⟨by rw [HND.out], rfl, e3.2.2.2.2.1, e4.left, ?_, HRX.out, HBB.out⟩⟩
          rw [e5]
          simp only [Tr.xs]
          rw [floorL_out (by simpa [HE.out.1] using hb) (List.pairwise_cons.1 (List.pairwise_append.1 e4).2.1).1]
        case measure =>
          rw [HL.out.1]
          simp only [Tr.xs, List.length_append, List.length_cons]
          omega

def ceilPost (w : World) (r : Option Id3) (e : Ending) (w' : World) : Prop := e = .returned (.tuple #[.agg #[.int .i64 (o3 r).l, .int .i64 (o3 r).n, .int .i64 (o3 r).p], .bool r.isSome]) ∧ Below w.heap.size w w'

set_option maxHeartbeats 4000000 in
set_option maxRecDepth 100000 in
theorem ceil_ok (w : World) (t a g cap : Nat) (A : Ar) (len : Int) (T : Tr) (hr : Rep A T) (hs : Sorted T.xs) (hT : TreeAt w t a g cap A T.root len) (s : Int) :
    Calls Tryz.prog 223 #[.pointer (some ⟨t, 0, none⟩), .int .i64 s] w (ceilPost w (ceilL T.xs s)) := by
  have HT := Aside.mk hT
  have HRS := Aside.mk (And.intro hr hs)
  have HB0 := Aside.mk ((Below.refl w.heap.size w).alloc (Nat.le_refl _) (.cells #[.int .i64 0, .int .i64 0, .int .i64 0] 94))
  have HX0 := Aside.mk (show Rx w (w.alloc (.cells #[.int .i64 0, .int .i64 0, .int .i64 0] 94)) w.heap.size (o3 none) from ⟨heap_alloc_new w _, Nat.le_refl _⟩)
  have HG := Aside.mk (fun (W : World) (h : Below w.heap.size w W) (j : Nat) (hj : j < 4294967296) => get_ok W t a g cap A T.root len (hT.below h) j hj)
  obtain ⟨c0, c1, -⟩ := hT.cells
  have hlt := hT.ltt
  obtain ⟨res, hres⟩ : ∃ res, res = ceilL T.xs s := ⟨_, rfl⟩
  rw [← hres]
  have HRES := Aside.mk hres
  clear hr hs hT hres
  go_enter Tryz.func223, Tryz.ntmps223
  go_wp2_with fail
  obtain ⟨c, hc⟩ : ∃ c, c = w.heap.size := ⟨_, rfl⟩
  rw [← hc] at HX0 ⊢
  have HC := Aside.mk hc
  generalize World.alloc w _ = w1 at HB0 HX0 ⊢
  clear c0 c1 hlt hc
  go_loopg [5, 6] T.xs.length (fun k v5 v6 wr => ∃ (S : Tr) (r0 : Option Id3) (id : Nat), v6 = .int .u32 id ∧ v5 = .bool r0.isSome ∧ Ai.Aside (id = S.root ∧ k = S.xs.length ∧ Rep A S ∧ Sorted S.xs ∧ res = (ceilL S.xs s).or r0 ∧ Rx w wr c (o3 r0) ∧ Below w.heap.size w wr))
  case atStart => exact ⟨T, none, T.root, rfl, rfl, ⟨rfl, rfl, HRS.out.1, HRS.out.2, by rw [HRES.out]; simp, HX0.out, HB0.out⟩⟩
  case round =>
    obtain ⟨S, r0, id, rfl, rfl, HR⟩ := hrel
    by_cases hS : S = .nil
    · have H0 : (id : Int) = 0 := by rw [HR.out.1, hS]; rfl
      have HRX := Aside.mk HR.out.2.2.2.2.2.1
      have HE := Aside.mk (show res = r0 by have h := HR.out.2.2.2.2.1; rw [hS] at h; simpa [ceilL, Tr.xs] using h)
      have HBB := Aside.mk HR.out.2.2.2.2.2.2
      have H0 := Aside.mk H0
      clear hS HR HX0 HB0
      obtain ⟨f0, f1, f2, z0, z1, z2⟩ := HRX.out.facts
      rw [H0.out]
      obtain ⟨y, hy⟩ : ∃ y, y = o3 r0 := ⟨_, rfl⟩
      rw [← hy] at f0 f1 f2 HRX
      have HY := Aside.mk hy
      clear hy
      go_upto_region 8 with fail
      rename_i K hK
      apply wp_region_lit
      have HRG : wr.rangeAt c 0 [.int .i64 y.l, .int .i64 y.n, .int .i64 y.p] := fun j v hj => by
        rcases j with _ | _ | _ | j <;> first | (simp only [List.getElem?_cons_zero, List.getElem?_cons_succ, Option.some.injEq] at hj; subst hj; simpa using (by assumption)) | (simp at hj)
      have HTH : wr.there c 0 3 := fun j hj => by
        rcases j with _ | _ | _ | j <;> first | (simp [*]; done) | omega
      refine wpList_load_mid rfl 94 (.tmp 4) rfl c 0 (by kernel_rfl) [.int .i64 y.l, .int .i64 y.n, .int .i64 y.p] _ HRG Tryz.underlying94 rfl (by kernel_rfl) ?_
      refine wpList_plain rfl (fun K1 hK1 => BigFrame.wp_move _ rfl (hK1 _ _ ?_))
      refine wpList_store_mid rfl 94 (.tmp 4) (.tmp 28) rfl c 0 [Value.int .i64 y.l, .int .i64 y.n, .int .i64 y.p].toArray (by kernel_rfl) (by kernel_rfl) HTH (by kernel_rfl) (all_oneCell_toArray (by simp [Value.oneCell'])) ?_
      refine wpList_plain rfl (fun K1 hK1 => BigFrame.wp_assign _ rfl (hK1 _ _ (wpList_nil ?_)))
      refine hK _ _ (wp_ret ?_)
      refine bodyPost_ret (res_cell_tmp (p := 4) (q := 5) (ty := 94) rfl _ _ c [.int .i64 y.l, .int .i64 y.n, .int .i64 y.p] _ (by kernel_rfl) (World.rangeAt_setCells_same _ _ _ _ HTH) Tryz.underlying94 rfl (by kernel_rfl)) (by kernel_rfl) ?_
      exact ⟨by rw [HE.out, ← HY.out]; rfl, below_setCells (by rw [HC.out]; exact Nat.le_refl _) _ _ HBB.out⟩
    · obtain ⟨i, l, r, b, n, p, rfl⟩ : ∃ i l r b n p, S = .node i l r b n p := by cases S with | nil => exact absurd rfl hS | node i l r b n p => exact ⟨i, l, r, b, n, p, rfl⟩
      clear hS HX0 HB0
      obtain ⟨e1, e2, e3, e4, e5, e6, e7⟩ := HR.out
      have e1' : id = i := e1
      clear e1
      subst e1'
      have hid : id < 4294967296 := by have := e3.2.1; omega
      have h0 : ¬ (id : Int) = 0 := by have := e3.1; omega
      have HG1 := Aside.mk (HG.out wr e7 id hid)
      rw [e3.get] at HG1
      obtain ⟨nd, hnode⟩ : ∃ nd : Nd, nd = ⟨l.root, r.root, 1 + max l.ht r.ht, b, n, p⟩ := ⟨_, rfl⟩
      rw [← hnode] at HG1
      have HND := Aside.mk hnode
      have HRX := Aside.mk e6
      have HBB := Aside.mk e7
      have ebd : nd.b = b := by rw [hnode]
      have eld : nd.l = l.root := by rw [hnode]
      have erd : nd.r = r.root := by rw [hnode]
      have HE := Aside.mk (And.intro ebd (And.intro eld erd))
      have HL := Aside.mk (And.intro e2 (And.intro e3 (And.intro e4 e5)))
      clear e2 e3 e4 e5 e6 e7 hnode ebd eld erd HR
      by_cases hb : s ≤ nd.b
      · go_upto_region 4 with (go_at_call 227; go_loud (refine HG1.out.mono ?_; rintro e w3 ⟨rfl, hbl⟩; have HRX1 := Aside.mk (HRX.out.below hbl); have HBB1 := Aside.mk (HBB.out.trans (hbl.mono HBB.out.size)); clear hbl HRX HBB; have HRX := HRX1; have HBB := HBB1; clear HRX1 HBB1))
        have B7 := Aside.mk (Bx.new (w := w) w3 nd HBB.out.size)
        have hne : w3.heap.size ≠ c := Nat.ne_of_gt HRX.out.lt
        replace HRX := Aside.mk (HRX.out.alloc (.cells #[.int .u32 nd.l, .int .u32 nd.r, .int .i64 nd.h, .int .i64 nd.b, .int .i64 nd.n, .int .i64 nd.p] 221))
        replace HBB := Aside.mk (HBB.out.alloc HBB.out.size (.cells #[.int .u32 nd.l, .int .u32 nd.r, .int .i64 nd.h, .int .i64 nd.b, .int .i64 nd.n, .int .i64 nd.p] 221))
        obtain ⟨b7, hb7⟩ : ∃ b, b = w3.heap.size := ⟨_, rfl⟩
        rw [← hb7] at B7 hne ⊢
        clear hb7
        generalize World.alloc w3 _ = w4 at HRX HBB B7 ⊢
        obtain ⟨f0, f1, f2, z0, z1, z2⟩ := HRX.out.facts
        obtain ⟨m0, m1, m2, m3, m4, m5, mz⟩ := B7.out.facts
        go_upto_region 6 with fail
        clear f0 f1 f2 z0 z1 z2 m0 m1 m2 m3 m4 m5 mz
        replace HBB := Aside.mk (below_put3 (c := c) HBB.out (by rw [HC.out]; exact Nat.le_refl _) (.int .i64 nd.b) (.int .i64 nd.n) (.int .i64 nd.p))
        replace B7 := Aside.mk (B7.out.box3 hne (.int .i64 nd.b) (.int .i64 nd.n) (.int .i64 nd.p))
        replace HRX := Aside.mk (HRX.out.put ⟨nd.b, nd.n, nd.p⟩)
        generalize World.setCell _ _ _ = w5 at HRX HBB B7 ⊢
        obtain ⟨m0, m1, m2, m3, m4, m5, mz⟩ := B7.out.facts
        go_wp2_with fail
        go_roundg l.xs.length
        case rel =>
          obtain ⟨e2, e3, e4, e5⟩ := HL.out
          refine ⟨l, some ⟨id, b, n, p⟩, nd.l, rfl, rfl, ⟨by rw [HND.out], rfl, e3.2.2.2.2.1, e4.left, ?_, ?_, HBB.out⟩⟩
          · rw [e5]
            simp only [Tr.xs]
            rw [ceilL_in (by simpa [HE.out.1] using hb)]
            cases ceilL l.xs s <;> rfl
          · have e : o3 (some ⟨id, b, n, p⟩) = ⟨nd.b, nd.n, nd.p⟩ := by rw [HND.out]; rfl
            rw [e]
            exact HRX.out
        case measure =>
          rw [HL.out.1]
          simp only [Tr.xs, List.length_append, List.length_cons]
          omega
      · go_upto_region 4 with (go_at_call 227; go_loud (refine HG1.out.mono ?_; rintro e w3 ⟨rfl, hbl⟩; have HRX1 := Aside.mk (HRX.out.below hbl); have HBB1 := Aside.mk (HBB.out.trans (hbl.mono HBB.out.size)); clear hbl HRX HBB; have HRX := HRX1; have HBB := HBB1; clear HRX1 HBB1))
        have B7 := Aside.mk (Bx.new (w := w) w3 nd HBB.out.size)
        replace HRX := Aside.mk (HRX.out.alloc (.cells #[.int .u32 nd.l, .int .u32 nd.r, .int .i64 nd.h, .int .i64 nd.b, .int .i64 nd.n, .int .i64 nd.p] 221))
        replace HBB := Aside.mk (HBB.out.alloc HBB.out.size (.cells #[.int .u32 nd.l, .int .u32 nd.r, .int .i64 nd.h, .int .i64 nd.b, .int .i64 nd.n, .int .i64 nd.p] 221))
        obtain ⟨b7, hb7⟩ : ∃ b, b = w3.heap.size := ⟨_, rfl⟩
        rw [← hb7] at B7 ⊢
        clear hb7
        generalize World.alloc w3 _ = w4 at HRX HBB B7 ⊢
        obtain ⟨m0, m1, m2, m3, m4, m5, mz⟩ := B7.out.facts
        go_wp2_with fail
        go_roundg r.xs.length
        case rel =>
          obtain ⟨e2, e3, e4, e5⟩ := HL.out
          refine ⟨r, r0, nd.r, rfl, rfl, ⟨by rw [HND.out], rfl, e3.2.2.2.2.2, e4.right, ?_, HRX.out, HBB.out⟩⟩
          rw [e5]
          simp only [Tr.xs]
          rw [ceilL_out (by simpa [HE.out.1] using hb) (fun y hy => (List.pairwise_append.1 e4).2.2 y hy _ (List.mem_cons_self ..))]
        case measure =>
          rw [HL.out.1]
          simp only [Tr.xs, List.length_append, List.length_cons]
          omega

end Lo
end Go.Proofs.YtjmhkcfdmcjilaaGreat
/- Plain: a tree in order, with its free list; what inserting and removing make of it. -/
set_option linter.unusedVariables false
set_option linter.unusedSimpArgs false
namespace Go.Proofs.YtjmhkcfdmcjilaaGreat
namespace Lo
open Go.RowKit

/-- The free list from f on. -/
def Chain (A : Ar) : Nat → List Nat → Prop
  | f, [] => f = 0
  | f, i :: r => f = i ∧ 1 ≤ i ∧ i < 513 ∧ (A.pl i).live = false ∧ Chain A (A.pl i).next r

theorem Chain.same {A B : Ar} : ∀ {fl : List Nat} {f : Nat}, Chain A f fl → (∀ i ∈ fl, (B.pl i).live = (A.pl i).live ∧ (B.pl i).next = (A.pl i).next) → Chain B f fl
  | [], _, h, _ => h
  | i :: r, f, h, hs => by
    obtain ⟨h1, h2, h3, h4, h5⟩ := h
    have hi := hs i (List.mem_cons_self ..)
    exact ⟨h1, h2, h3, by rw [hi.1]; exact h4, by rw [hi.2]; exact h5.same fun j hj => hs j (List.mem_cons_of_mem _ hj)⟩

theorem Chain.dead {A : Ar} : ∀ {fl : List Nat} {f : Nat}, Chain A f fl → ∀ i ∈ fl, 1 ≤ i ∧ i < 513 ∧ (A.pl i).live = false
  | [], _, _, i, hi => absurd hi (by simp)
  | j :: r, f, h, i, hi => by
    obtain ⟨h1, h2, h3, h4, h5⟩ := h
    rcases List.mem_cons.1 hi with rfl | hi
    · exact ⟨h2, h3, h4⟩
    · exact h5.dead i hi

structure Good (A : Ar) (T : Tr) : Prop where
  zero : Zero A
  lb : LB A
  hb : HB A 600
  rep : Rep A T
  nd : (ids T.xs).Nodup
  sorted : Sorted T.xs
  chain : ∃ fl, Chain A A.free fl ∧ fl.Nodup ∧ fl.length + T.xs.length = 512

theorem Good.len {A : Ar} {T : Tr} (h : Good A T) : T.xs.length ≤ 512 := by
  obtain ⟨fl, -, -, h3⟩ := h.chain
  omega

theorem take_pl {A : Ar} {j : Nat} (h : j ≠ A.free) : A.take.pl j = A.pl j := by simp [Ar.take, Ar.set, h]
theorem take_get {A : Ar} (j : Nat) (hd : (A.pl A.free).live = false) : A.take.get j = A.get j := by
  by_cases h : j = A.free
  · subst h
    simp [Ar.get, Ar.has, Ar.take, Ar.set, hd]
  · simp [Ar.get, Ar.has, take_pl h]
theorem Rep.take {A : Ar} : ∀ {T : Tr}, Rep A T → A.free ∉ ids T.xs → Rep A.take T
  | .nil, _, _ => trivial
  | .node j l r b n p, h, hi => by
    obtain ⟨h1, h2, h3, h4, h5, h6⟩ := h
    simp only [Tr.xs, ids_append, ids_cons, List.mem_append, List.mem_cons, not_or] at hi
    have hj : j ≠ A.free := fun e => hi.2.1 e.symm
    exact ⟨h1, h2, by rw [take_pl hj]; exact h3, by rw [take_pl hj]; exact h4, h5.take hi.1, h6.take hi.2.2⟩

/-- A node that is taken and laid. -/
theorem good_fresh {A : Ar} {T : Tr} (h : Good A T) (hn : T.xs.length ≤ 511) (b n p : Int) :
    1 ≤ A.free ∧ A.free < 513 ∧ A.free ∉ ids T.xs ∧ HB A.take 600 ∧ A.take.tput A.free ⟨0, 0, 0, b, n, p⟩ = A.take.put A.free ⟨0, 0, 1, b, n, p⟩ ∧ Zero (A.take.put A.free ⟨0, 0, 1, b, n, p⟩) ∧ LB (A.take.put A.free ⟨0, 0, 1, b, n, p⟩) ∧
    HB (A.take.put A.free ⟨0, 0, 1, b, n, p⟩) 600 ∧ Rep (A.take.put A.free ⟨0, 0, 1, b, n, p⟩) T ∧ ((A.take.put A.free ⟨0, 0, 1, b, n, p⟩).pl A.free).live = true ∧ ((A.take.put A.free ⟨0, 0, 1, b, n, p⟩).pl A.free).nd = ⟨0, 0, 1, b, n, p⟩ := by
  obtain ⟨fl, c1, c2, c3⟩ := h.chain
  match fl, c1, c2, c3 with
  | [], _, _, c3 => simp at c3; omega
  | i :: r, c1, c2, c3 =>
    obtain ⟨d1, d2, d3, d4, d5⟩ := c1
    have hfree : A.free ∉ ids T.xs := by
      intro hm
      obtain ⟨x, hx, he⟩ := List.mem_map.1 hm
      obtain ⟨_, _, _, _, _, _, hl⟩ := rep_mem h.rep x hx
      rw [he, d1, d4] at hl
      exact absurd hl (by simp)
    have hdead : (A.pl A.free).live = false := by rw [d1]; exact d4
    have hz : Zero A.take := by
      unfold Zero
      rw [take_pl (by omega)]
      exact h.zero
    have hlive : (A.take.pl A.free).live = true := by simp [Ar.take, Ar.set]
    have hhas : A.take.has A.free = true := by simp [Ar.has, hlive]; omega
    have hHB : HB A.take 600 := fun j => by rw [take_get j hdead]; exact h.hb j
    have hLB : LB A.take := fun j => by rw [take_get j hdead]; exact h.lb j
    have hk := put_kept A.take A.free ⟨0, 0, 1, b, n, p⟩
    refine ⟨by omega, by omega, hfree, hHB, ?_, hz.kept hk, ?_, ?_, (h.rep.take hfree).kept hk fun j hj e => ?_, by rw [hk.live]; exact hlive, ?_⟩
    · unfold Ar.tput Ar.tall
      rw [hz.get]
      rfl
    · intro j
      by_cases hj : j = A.free
      · subst hj; rw [put_get hhas]; simp
      · rw [hk.get (by simpa using hj)]; exact hLB j
    · intro j
      by_cases hj : j = A.free
      · subst hj; rw [put_get hhas]; simp
      · rw [hk.get (by simpa using hj)]; exact hHB j
    · simp only [List.mem_singleton] at e; subst e; exact hfree hj
    · rw [Ar.put, if_pos hhas]; simp [Ar.set]

theorem sorted_ins {ys zs : List Id3} {x : Id3} (h : Sorted (ys ++ zs)) (h1 : ∀ y ∈ ys, y.b < x.b) (h2 : ∀ z ∈ zs, x.b < z.b) : Sorted (ys ++ x :: zs) := by
  have ha := List.pairwise_append.1 h
  refine List.pairwise_append.2 ⟨ha.1, List.pairwise_cons.2 ⟨h2, ha.2.1⟩, ?_⟩
  intro a ha1 c hc
  rcases List.mem_cons.1 hc with rfl | hc
  · exact h1 a ha1
  · exact ha.2.2 a ha1 c hc
theorem sorted_rem {ys zs : List Id3} {x : Id3} (h : Sorted (ys ++ x :: zs)) : Sorted (ys ++ zs) := by
  have ha := List.pairwise_append.1 h
  exact List.pairwise_append.2 ⟨ha.1, (List.pairwise_cons.1 ha.2.1).2, fun a h1 c hc => ha.2.2 a h1 c (List.mem_cons_of_mem _ hc)⟩

theorem good_ins {A A' : Ar} {T T' : Tr} (h : Good A T) (hn : T.xs.length ≤ 511) {b n p : Int} (hne : ∀ x ∈ T.xs, x.b ≠ b) (hi : Ins (A.take.put A.free ⟨0, 0, 1, b, n, p⟩) A' T T' ⟨A.free, b, n, p⟩) :
    Good A' T' ∧ ∃ ys zs, T.xs = ys ++ zs ∧ T'.xs = ys ++ ⟨A.free, b, n, p⟩ :: zs := by
  obtain ⟨g1, g2, g3, g4, g5, g6, g7, g8, g9, g10, g11⟩ := good_fresh h hn b n p
  have hids := hi.ids
  have hlen := hi.len
  obtain ⟨r1, k1, ys, zs, e1, e2, hy, hz⟩ := hi
  obtain ⟨b1, b2⟩ := kept_bounds k1 r1 (fun j hj => (hids j).2 (by simpa using hj)) g7 g8 (by omega)
  refine ⟨⟨g6.kept k1, b1, b2, r1, ?_, ?_, ?_⟩, ys, zs, e1, e2⟩
  · rw [e2]
    exact nodup_ins (by rw [← e1]; exact h.nd) (by rw [← e1]; exact g3)
  · rw [e2]
    refine sorted_ins (by rw [← e1]; exact h.sorted) (fun y hy' => ?_) hz
    have : y.b ≤ b := hy y hy'
    have := hne y (by rw [e1]; exact List.mem_append_left _ hy')
    show y.b < b
    omega
  · obtain ⟨fl, c1, c2, c3⟩ := h.chain
    match fl, c1, c2, c3 with
    | [], _, _, c3 => simp at c3; omega
    | i :: r, c1, c2, c3 =>
      obtain ⟨d1, d2, d3, d4, d5⟩ := c1
      have kp := put_kept A.take A.free ⟨0, 0, 1, b, n, p⟩
      have ef : A'.free = (A.pl i).next := by rw [k1.free, kp.free, ← d1]; rfl
      refine ⟨r, ?_, (List.nodup_cons.1 c2).2, by rw [hlen]; simp at c3; omega⟩
      rw [ef]
      refine d5.same fun j hj => ?_
      have hji : j ≠ A.free := by rw [d1]; intro e; subst e; exact (List.nodup_cons.1 c2).1 hj
      rw [k1.live, kp.live, k1.next, kp.next, take_pl hji]
      exact ⟨rfl, rfl⟩

theorem good_rem {A A' : Ar} {T T' : Tr} {x : Id3} (h : Good A T) (hi : Rem A A' T T' x) : Good A' T' := by
  obtain ⟨b1, b2⟩ := rem_bounds hi h.lb h.hb (by have := h.len; omega)
  obtain ⟨r1, k1, ys, zs, e1, e2⟩ := hi
  have hx : x ∈ T.xs := by rw [e1]; simp
  obtain ⟨_, _, _, _, x1, x2, x3⟩ := rep_mem h.rep x hx
  refine ⟨(give_zero h.zero x1).kept k1, b1, b2, r1, ?_, ?_, ?_⟩
  · rw [e2]
    have := h.nd
    rw [e1] at this
    exact (nodup_rem this).1
  · rw [e2]
    have := h.sorted
    rw [e1] at this
    exact sorted_rem this
  · obtain ⟨fl, c1, c2, c3⟩ := h.chain
    have hxf : x.i ∉ fl := fun hm => by
      have := (c1.dead x.i hm).2.2
      rw [x3] at this
      exact absurd this (by simp)
    refine ⟨x.i :: fl, ⟨by rw [k1.free]; rfl, x1, x2, by rw [k1.live]; simp [Ar.give, Ar.set], ?_⟩, List.nodup_cons.2 ⟨hxf, c2⟩, ?_⟩
    · have en : (A'.pl x.i).next = A.free := by rw [k1.next]; simp [Ar.give, Ar.set]
      rw [en]
      refine c1.same fun j hj => ?_
      have hji : j ≠ x.i := fun e => hxf (e ▸ hj)
      rw [k1.live, k1.next, give_pl hji]
      exact ⟨rfl, rfl⟩
    · have h1 := congrArg List.length e1
      have h2 := congrArg List.length e2
      simp at h1 h2 ⊢
      omega
end Lo
end Go.Proofs.YtjmhkcfdmcjilaaGreat
set_option linter.unusedVariables false
set_option linter.unusedSimpArgs false
namespace Go.Proofs.YtjmhkcfdmcjilaaGreat
namespace Lo
open Go.RowKit Ai Fi

def findB (r : Option Id3) (s : Int) : Bool := match r with
  | none => false
  | some x => decide (x.b = s)
def FindPost (w : World) (f : Bool) (e : Ending) (w' : World) : Prop := ∃ x : Op3, e = .returned (.tuple #[.agg #[.int .i64 x.l, .int .i64 x.n, .int .i64 x.p], .bool f]) ∧ Below w.heap.size w w'

theorem Rx.range {w W : World} {c : Nat} {x : Op3} (h : Rx w W c x) : W.rangeAt c 0 [.int .i64 x.l, .int .i64 x.n, .int .i64 x.p] := fun j v hj => by
  rw [cell_of_row _ _ _ _ _ _ h.box, Nat.zero_add]
  simpa using hj
theorem Rx.new0 (w : World) : Rx w (w.alloc (.cells #[.int .i64 0, .int .i64 0, .int .i64 0] 94)) w.heap.size ⟨0, 0, 0⟩ := ⟨heap_alloc_new w _, Nat.le_refl _⟩
theorem Rx.new {w : World} (W : World) (x : Op3) (hb : w.heap.size ≤ W.heap.size) : Rx w (W.alloc (.cells #[.int .i64 x.l, .int .i64 x.n, .int .i64 x.p] 94)) W.heap.size x := ⟨heap_alloc_new W _, hb⟩

set_option maxHeartbeats 4000000 in
set_option maxRecDepth 100000 in
theorem fnd_ok (w : World) (t a g cap : Nat) (A : Ar) (len : Int) (T : Tr) (hr : Rep A T) (hs : Sorted T.xs) (hT : TreeAt w t a g cap A T.root len) (s : Int) :
    Calls Tryz.prog 230 #[.pointer (some ⟨t, 0, none⟩), .int .i64 s] w (FindPost w (findB (floorL T.xs s) s)) := by
  have HB := Aside.mk ((Below.refl w.heap.size w).alloc (Nat.le_refl _) (.cells #[.int .i64 0, .int .i64 0, .int .i64 0] 94))
  have HF := Aside.mk (floor_ok _ t a g cap A len T hr hs (hT.below HB.out) s)
  obtain ⟨r, hr⟩ : ∃ r, r = floorL T.xs s := ⟨_, rfl⟩
  rw [← hr] at HF ⊢
  clear hr hs hT
  obtain ⟨f, hf⟩ : ∃ f, f = findB r s := ⟨_, rfl⟩
  rw [← hf]
  obtain ⟨y, hy⟩ : ∃ y, y = o3 r := ⟨_, rfl⟩
  obtain ⟨q, hq⟩ : ∃ q, q = r.isSome := ⟨_, rfl⟩
  unfold floorPost at HF
  rw [← hy, ← hq] at HF
  have HC := Aside.mk (show (f = true ↔ (q = true ∧ y.l = s)) by
    rw [hf, hq, hy]
    cases r <;> simp [findB, o3])
  clear hf hy hq
  have RX0 := Aside.mk (Rx.new0 w)
  by_cases hfo : q = true ∧ y.l = s
  · have hf : f = true := HC.out.2 hfo
    obtain ⟨hq, hy⟩ := hfo
    subst hf hq
    have hys : (y.l != s) = false := by simp [hy]
    clear hy HC
    go_enter Tryz.func230, Tryz.ntmps230
    go_upto_region 4 with (go_at_call 220; go_loud (refine HF.out.mono ?_; rintro e w1 ⟨rfl, hb⟩; have RX := Aside.mk (RX0.out.below hb); have HB1 := Aside.mk (HB.out.trans (hb.mono HB.out.size)); clear hb RX0 HB))
    have R6 := Aside.mk (Rx.new (w := w) w1 y HB1.out.size)
    have hne : w.heap.size ≠ w1.heap.size := Nat.ne_of_lt RX.out.lt
    replace RX := Aside.mk (RX.out.alloc (.cells #[.int .i64 y.l, .int .i64 y.n, .int .i64 y.p] 94))
    replace HB1 := Aside.mk (HB1.out.alloc HB1.out.size (.cells #[.int .i64 y.l, .int .i64 y.n, .int .i64 y.p] 94))
    obtain ⟨b6, hb6⟩ : ∃ b, b = w1.heap.size := ⟨_, rfl⟩
    rw [← hb6] at R6 hne ⊢
    clear hb6
    generalize World.alloc w1 _ = w2 at RX HB1 R6 ⊢
    obtain ⟨f0, f1, f2, z0, z1, z2⟩ := RX.out.facts
    obtain ⟨g0, g1, g2, -, -, -⟩ := R6.out.facts
    go_wp2_with fail
    refine bodyPost_ret (res_cell_tmp (p := 4) (q := 5) (ty := 94) rfl _ _ w.heap.size [.int .i64 y.l, .int .i64 y.n, .int .i64 y.p] _ rfl (RX.out.put y).range Tryz.underlying94 rfl (by kernel_rfl)) rfl ?_
    exact ⟨y, rfl, below_put3 HB1.out (Nat.le_refl _) _ _ _⟩
  · have hf : f = false := by
      cases f
      · rfl
      · exact absurd (HC.out.1 rfl) hfo
    subst hf
    have HQ := Aside.mk hfo
    clear HC hfo
    cases q
    · go_enter Tryz.func230, Tryz.ntmps230
      go_upto_region 3 with (go_at_call 220; go_loud (refine HF.out.mono ?_; rintro e w1 ⟨rfl, hb⟩; have RX := Aside.mk (RX0.out.below hb); have HB1 := Aside.mk (HB.out.trans (hb.mono HB.out.size)); clear hb RX0 HB))
      replace RX := Aside.mk (RX.out.alloc (.cells #[.int .i64 y.l, .int .i64 y.n, .int .i64 y.p] 94))
      replace HB1 := Aside.mk (HB1.out.alloc HB1.out.size (.cells #[.int .i64 y.l, .int .i64 y.n, .int .i64 y.p] 94))
      generalize World.alloc w1 _ = w2 at RX HB1 ⊢
      obtain ⟨f0, f1, f2, z0, z1, z2⟩ := RX.out.facts
      go_wp2_with fail
      refine bodyPost_ret (res_cell_tmp (p := 4) (q := 5) (ty := 94) rfl _ _ w.heap.size [.int .i64 0, .int .i64 0, .int .i64 0] _ rfl (RX.out.put ⟨0, 0, 0⟩).range Tryz.underlying94 rfl (by kernel_rfl)) rfl ?_
      exact ⟨⟨0, 0, 0⟩, rfl, below_put3 HB1.out (Nat.le_refl _) _ _ _⟩
    · have hys : (y.l != s) = true := by
        simp only [bne_iff_ne, ne_eq]
        intro h; exact HQ.out ⟨rfl, h⟩
      go_enter Tryz.func230, Tryz.ntmps230
      go_upto_region 3 with (go_at_call 220; go_loud (refine HF.out.mono ?_; rintro e w1 ⟨rfl, hb⟩; have RX := Aside.mk (RX0.out.below hb); have HB1 := Aside.mk (HB.out.trans (hb.mono HB.out.size)); clear hb RX0 HB))
      replace RX := Aside.mk (RX.out.alloc (.cells #[.int .i64 y.l, .int .i64 y.n, .int .i64 y.p] 94))
      replace HB1 := Aside.mk (HB1.out.alloc HB1.out.size (.cells #[.int .i64 y.l, .int .i64 y.n, .int .i64 y.p] 94))
      generalize World.alloc w1 _ = w2 at RX HB1 ⊢
      obtain ⟨f0, f1, f2, z0, z1, z2⟩ := RX.out.facts
      go_wp2_with fail
      refine bodyPost_ret (res_cell_tmp (p := 4) (q := 5) (ty := 94) rfl _ _ w.heap.size [.int .i64 0, .int .i64 0, .int .i64 0] _ rfl (RX.out.put ⟨0, 0, 0⟩).range Tryz.underlying94 rfl (by kernel_rfl)) rfl ?_
      exact ⟨⟨0, 0, 0⟩, rfl, below_put3 HB1.out (Nat.le_refl _) _ _ _⟩

theorem TreeAt.setRoot {w : World} {t a g cap : Nat} {A : Ar} {root : Nat} {len : Int} (h : TreeAt w t a g cap A root len) (r : Nat) : TreeAt (w.setCell ⟨t, 1, none⟩ (.int .u32 r)) t a g cap A r len :=
  ⟨by rw [heap_setCell_same w t 1 _ 225 _ h.obj]; rfl, h.ar.same (heap_setCell_other w ⟨t, 1, none⟩ a _ (Ne.symm h.na)) (heap_setCell_other w ⟨t, 1, none⟩ g _ (Ne.symm h.ng)), h.na, h.ng⟩
theorem TreeAt.setLen {w : World} {t a g cap : Nat} {A : Ar} {root : Nat} {len : Int} (h : TreeAt w t a g cap A root len) (n : Int) : TreeAt (w.setCell ⟨t, 2, none⟩ (.int .i64 n)) t a g cap A root n :=
  ⟨by rw [heap_setCell_same w t 2 _ 225 _ h.obj]; rfl, h.ar.same (heap_setCell_other w ⟨t, 2, none⟩ a _ (Ne.symm h.na)) (heap_setCell_other w ⟨t, 2, none⟩ g _ (Ne.symm h.ng)), h.na, h.ng⟩
theorem TreeAt.frt {w : World} {t a g cap : Nat} {A : Ar} {root : Nat} {len : Int} (h : TreeAt w t a g cap A root len) (j : Nat) : w.frozen? ⟨t, j, none⟩ = false := by simp [World.frozen?, h.obj]

theorem TreeAt.arStep {W w' : World} {t a g cap : Nat} {A A' : Ar} {root : Nat} {len : Int} (h : TreeAt W t a g cap A root len) (hm : ModB (fun k => k = g ∨ k = a) W w') (ha : ArAt w' a g cap A') : TreeAt w' t a g cap A' root len :=
  ⟨by rw [hm.block t h.ltt (by have := h.na; have := h.ng; omega)]; exact h.obj, ha, h.na, h.ng⟩
theorem Rx.ga {w W W' : World} {c : Nat} {x : Op3} {g a : Nat} (h : Rx w W c x) (hm : ModB (fun k => k = g ∨ k = a) W W') (hg : g < w.heap.size) (ha : a < w.heap.size) : Rx w W' c x := h.modB hm (fun k hk => by omega)
theorem Rx.g1 {w W W' : World} {c : Nat} {x : Op3} {g : Nat} (h : Rx w W c x) (hm : ModB (· = g) W W') (hg : g < w.heap.size) : Rx w W' c x := h.modB hm (fun k hk => by omega)
theorem Rx.other {w W : World} {c : Nat} {x : Op3} (h : Rx w W c x) {b : Nat} (j : Nat) (v : Value) (hc : c ≠ b) : Rx w (W.setCell ⟨b, j, none⟩ v) c x := ⟨(heap_setCell_other W ⟨b, j, none⟩ c v hc).trans h.box, h.hb⟩

/-- The blocks of a tree. -/
def TS (t a g k : Nat) : Prop := k = t ∨ k = g ∨ k = a

/-- A tree in order, in the world. -/
structure TrAt (w : World) (t a g cap : Nat) (A : Ar) (T : Tr) : Prop where
  tr : TreeAt w t a g cap A T.root T.xs.length
  good : Good A T

def InsertPost (w : World) (t a g cap : Nat) (T : Tr) (x : Op3) (e : Ending) (w' : World) : Prop :=
  e = .returned (.int .i64 0) ∧ ModB (TS t a g) w w' ∧ ∃ A' T' i ys zs, TrAt w' t a g cap A' T' ∧ T.xs = ys ++ zs ∧ T'.xs = ys ++ ⟨i, x.l, x.n, x.p⟩ :: zs

theorem findB_none {xs : List Id3} {s : Int} (h : ∀ x ∈ xs, x.b ≠ s) : findB (floorL xs s) s = false := by
  unfold floorL findB
  split
  · rfl
  · rename_i x hx
    have := List.mem_of_getLast? hx
    exact decide_eq_false (h x (List.mem_filter.1 this).1)

theorem good_heap {A : Ar} {T : Tr} (h : Good A T) : A.free < 4294967296 ∨ True := .inr trivial

set_option maxHeartbeats 8000000 in
set_option maxRecDepth 100000 in
theorem tinsert_ok (w : World) (t a g cap : Nat) (A : Ar) (T : Tr) (hT : TrAt w t a g cap A T) (hn : T.xs.length ≤ 511) (x : Op3) (hx : ∀ y ∈ T.xs, y.b ≠ x.l) :
    Calls Tryz.prog 225 #[.pointer (some ⟨t, 0, none⟩), .agg #[.int .i64 x.l, .int .i64 x.n, .int .i64 x.p]] w (InsertPost w t a g cap T x) := by
  have B0 := Aside.mk ((Below.refl w.heap.size w).alloc (Nat.le_refl _) (.cells #[.int .i64 x.l, .int .i64 x.n, .int .i64 x.p] 94))
  have RX := Aside.mk (Rx.new (w := w) w x (Nat.le_refl _))
  have TY := Aside.mk (Ty.start hT.tr)
  have GD := hT.good
  obtain ⟨g1, g2, g3, g4, g5, g6, g7, g8, g9, g10, g11⟩ := good_fresh GD hn x.l x.n x.p
  have HF := Aside.mk (fun (W : World) (h : TreeAt W t a g cap A T.root T.xs.length) => fnd_ok W t a g cap A _ T GD.rep GD.sorted h x.l)
  rw [findB_none hx] at HF
  have HTK := Aside.mk (fun (W : World) (h : ArAt W a g cap A) => take_ok W a g cap A h g1 g2)
  have HPT := Aside.mk (fun (W : World) (h : TreeAt W t a g cap A.take T.root T.xs.length) => tput_ok W t a g cap A.take _ _ h A.free (by omega) ⟨0, 0, 0, x.l, x.n, x.p⟩ (by show (0:Nat) < _; omega) (by show (0:Nat) < _; omega) 600 (by omega) g4)
  rw [g5] at HPT
  have HIN := Aside.mk (insert_ok t a g cap (A.take.put A.free ⟨0, 0, 1, x.l, x.n, x.p⟩) T.root T.xs.length ⟨A.free, x.l, x.n, x.p⟩ g6 g7 g8 ⟨g1, g2, g10⟩ g11 T g9 GD.nd GD.sorted g3 hn)
  have HGI := Aside.mk (fun (A' : Ar) (T' : Tr) (h : Ins (A.take.put A.free ⟨0, 0, 1, x.l, x.n, x.p⟩) A' T T' ⟨A.free, x.l, x.n, x.p⟩) => good_ins GD hn hx h)
  obtain ⟨ln, hln⟩ : ∃ ln : Int, ln = (T.xs.length : Int) := ⟨_, rfl⟩
  rw [← hln] at TY HF HPT HIN
  have hln0 : 0 ≤ ln ∧ ln ≤ 511 := by omega
  have HLN := Aside.mk hln
  obtain ⟨id, hid⟩ : ∃ id, id = A.free := ⟨_, rfl⟩
  rw [← hid] at HPT HIN HGI
  have HID := Aside.mk hid
  have hid0 : id < 4294967296 := by omega
  generalize A.take.put id ⟨0, 0, 1, x.l, x.n, x.p⟩ = A2 at HPT HIN HGI
  obtain ⟨root, hroot⟩ : ∃ root, root = T.root := ⟨_, rfl⟩
  rw [← hroot] at TY HF HPT HIN
  unfold Nd.V at HPT
  have htt := hT.tr.ltt
  clear hT hn hx GD g1 g2 g3 g4 g5 g6 g7 g8 g9 g10 g11 hln hid hroot
  go_enter Tryz.func225, Tryz.ntmps225
  go_upto_region 1 with fail
  replace TY := Aside.mk (TY.out.alloc (.cells #[.int .i64 x.l, .int .i64 x.n, .int .i64 x.p] 94))
  obtain ⟨b3, hb3⟩ : ∃ b, b = w.heap.size := ⟨_, rfl⟩
  rw [← hb3] at RX ⊢
  have HB3 := Aside.mk hb3
  clear hb3 B0
  generalize World.alloc w _ = w1 at TY RX ⊢
  obtain ⟨f0, f1, f2, z0, z1, z2⟩ := RX.out.facts
  go_upto_region 4 with (go_at_call 230; go_loud (refine (HF.out _ TY.out.tr).mono ?_; rintro e w2 ⟨y, rfl, hb⟩; have TY1 := Aside.mk (TY.out.below hb); have RX1 := Aside.mk (RX.out.below hb); clear TY RX hb f0 f1 f2 z0 z1 z2; have TY := TY1; have RX := RX1; clear TY1 RX1))
  replace TY := Aside.mk (TY.out.alloc (.cells #[.int .i64 y.l, .int .i64 y.n, .int .i64 y.p] 94))
  replace RX := Aside.mk (RX.out.alloc (.cells #[.int .i64 y.l, .int .i64 y.n, .int .i64 y.p] 94))
  generalize World.alloc w2 _ = w3 at TY RX ⊢
  obtain ⟨f0, f1, f2, z0, z1, z2⟩ := RX.out.facts
  obtain ⟨k0, k1, k2⟩ := TY.out.tr.cells
  go_upto_region 8 with (first | (go_at_call 232; go_loud (refine (HTK.out _ TY.out.tr.ar).mono ?_; rintro e w4 ⟨rfl, hm, ha⟩; rw [← HID.out]; have TY1 := Aside.mk (TY.out.step hm (TY.out.tr.arStep hm ha)); have RX1 := Aside.mk (RX.out.ga hm TY.out.ltg TY.out.lta); clear TY RX hm ha f0 f1 f2 z0 z1 z2 k0 k1 k2; have TY := TY1; have RX := RX1; clear TY1 RX1; obtain ⟨f0, f1, f2, z0, z1, z2⟩ := RX.out.facts; obtain ⟨k0, k1, k2⟩ := TY.out.tr.cells)) | (go_at_call 233; go_loud (refine (HPT.out _ TY.out.tr).mono ?_; rintro e w5 ⟨rfl, hm, ht⟩; have TY1 := Aside.mk (TY.out.step1 hm ht); have RX1 := Aside.mk (RX.out.g1 hm TY.out.ltg); clear TY RX hm ht f0 f1 f2 z0 z1 z2 k0 k1 k2; have TY := TY1; have RX := RX1; clear TY1 RX1; obtain ⟨f0, f1, f2, z0, z1, z2⟩ := RX.out.facts; obtain ⟨k0, k1, k2⟩ := TY.out.tr.cells)))
  have kz := TY.out.tr.frt
  replace TY := Aside.mk (TY.out.below (Below.refl _ w5).drew)
  have n1 : t ≠ g := TY.out.tr.ng
  have n2 : b3 ≠ g := by have := TY.out.ltg; rw [HB3.out]; omega
  have n3 : b3 ≠ t := by rw [HB3.out]; omega
  go_region_with ((go_at_call 234; (with_reducible refine (HIN.out _ TY.out.tr).mono ?_); rintro e w6 ⟨A', T', rfl, tw, hins⟩; have HI := Aside.mk hins; have TY1 := Aside.mk (TY.out.step1 tw.mod tw.tr); have RX1 := Aside.mk (RX.out.g1 ((ModB.of_below (Below.refl _ w5).drew _).trans tw.mod) TY.out.ltg); clear hins tw TY RX f0 f1 f2 z0 z1 z2 k0 k1 k2 kz; have TY := TY1; have RX := RX1; clear TY1 RX1; obtain ⟨f0, f1, f2, z0, z1, z2⟩ := RX.out.facts; obtain ⟨k0, k1, k2⟩ := TY.out.tr.cells; have kz := TY.out.tr.frt))
  all_goals
    replace TY := Aside.mk (And.intro (TY.out.tr.setRoot T'.root) ((TY.out.mod.mono (T := TS t a g) (fun k _ h => .inr h)).trans ((modB_set w6 t 1 (.int .u32 T'.root)).mono (T := TS t a g) (fun k _ h => .inl h))))
    clear f0 f1 f2 z0 z1 z2 k0 k1 k2 kz RX
    generalize World.setCell _ _ _ = w7 at TY ⊢
    obtain ⟨k0, k1, k2⟩ := TY.out.1.cells
    have kz := TY.out.1.frt
    go_wp2_with fail
    replace TY := Aside.mk (And.intro (TY.out.1.setLen (ln + 1)) (TY.out.2.trans ((modB_set w7 t 2 (.int .i64 (ln + 1))).mono (T := TS t a g) (fun k _ h => .inl h))))
    go_ret
    obtain ⟨hg, ys, zs, e1, e2⟩ := HGI.out A' T' HI.out
    have hl : ((T'.xs.length : Nat) : Int) = ln + 1 := by
      rw [HLN.out, e1, e2]; simp; omega
    exact ⟨rfl, TY.out.2, A', T', id, ys, zs, ⟨by rw [hl]; exact TY.out.1, hg⟩, e1, e2⟩
end Lo
end Go.Proofs.YtjmhkcfdmcjilaaGreat
