/-
  Walks of the map of runs: right, lay.
-/
import Derived.Test.YtjmhkcfdmcjilaaGreatLoN
import Derived.Test.YtjmhkcfdmcjilaaGreatFiI
/- Walks: the tree's New, the New of a map of runs. -/
/- Walks of the tree: walk with All's visitor, All. -/
/- Walks of the tree: Delete, All. -/
set_option linter.unusedVariables false
set_option linter.unusedSimpArgs false
namespace Go.Proofs.YtjmhkcfdmcjilaaGreat
namespace Lo
open Go.RowKit Ai Fi

theorem findB_some {xs : List Id3} {s : Int} (hs : Sorted xs) {x : Id3} (hx : x ∈ xs) (he : x.b = s) : findB (floorL xs s) s = true := by
  have hm : x ∈ xs.filter fun y => decide (y.b ≤ s) := List.mem_filter.2 ⟨hx, by simp; omega⟩
  have hp : Sorted (xs.filter fun y => decide (y.b ≤ s)) := List.Pairwise.filter _ hs
  unfold floorL
  obtain ⟨y, hy⟩ : ∃ y, (xs.filter fun y => decide (y.b ≤ s)).getLast? = some y := by
    cases h : (xs.filter fun y => decide (y.b ≤ s)).getLast? with
    | none => rw [List.getLast?_eq_none_iff] at h; rw [h] at hm; simp at hm
    | some y => exact ⟨y, rfl⟩
  rw [hy]
  obtain ⟨l, hl⟩ := List.getLast?_eq_some_iff.1 hy
  have h1 : y.b ≤ s := by
    have := List.mem_of_getLast? hy
    simpa using (List.mem_filter.1 this).2
  have h2 : x.b ≤ y.b := by
    rw [hl] at hm hp
    rcases List.mem_append.1 hm with h | h
    · exact Int.le_of_lt ((List.pairwise_append.1 hp).2.2 x h y (by simp))
    · simp at h; subst h; exact Int.le_refl _
  show decide (y.b = s) = true
  exact decide_eq_true (by omega)

def DeletePost (w : World) (t a g cap : Nat) (T : Tr) (x : Id3) (e : Ending) (w' : World) : Prop :=
  e = .returned (.int .i64 0) ∧ ModB (TS t a g) w w' ∧ ∃ A' T' ys zs, TrAt w' t a g cap A' T' ∧ T.xs = ys ++ x :: zs ∧ T'.xs = ys ++ zs

set_option maxHeartbeats 8000000 in
set_option maxRecDepth 100000 in
theorem tdelete_ok (w : World) (t a g cap : Nat) (A : Ar) (T : Tr) (hT : TrAt w t a g cap A T) (x : Id3) (hx : x ∈ T.xs) :
    Calls Tryz.prog 224 #[.pointer (some ⟨t, 0, none⟩), .int .i64 x.b] w (DeletePost w t a g cap T x) := by
  have TY := Aside.mk (Ty.start hT.tr)
  have GD := hT.good
  have HF := Aside.mk (fun (W : World) (h : TreeAt W t a g cap A T.root T.xs.length) => fnd_ok W t a g cap A _ T GD.rep GD.sorted h x.b)
  rw [findB_some GD.sorted hx rfl] at HF
  have HRM := Aside.mk (remove_ok t a g cap A T.root T.xs.length x GD.zero GD.lb GD.hb T GD.rep GD.nd GD.sorted hx GD.len)
  have HGR := Aside.mk (fun (A' : Ar) (T' : Tr) (h : Rem A A' T T' x) => good_rem GD h)
  obtain ⟨ln, hln⟩ : ∃ ln : Int, ln = (T.xs.length : Int) := ⟨_, rfl⟩
  rw [← hln] at TY HF HRM
  have hln0 : 0 ≤ ln ∧ ln ≤ 512 := by have := GD.len; omega
  have HLN := Aside.mk hln
  obtain ⟨root, hroot⟩ : ∃ root, root = T.root := ⟨_, rfl⟩
  rw [← hroot] at TY HF HRM
  obtain ⟨s, hs⟩ : ∃ s, s = x.b := ⟨_, rfl⟩
  rw [← hs] at HF HRM ⊢
  clear hT hx GD hln hroot hs
  go_enter Tryz.func224, Tryz.ntmps224
  go_upto_region 4 with (go_at_call 230; go_loud (refine (HF.out _ TY.out.tr).mono ?_; rintro e w2 ⟨y, rfl, hb⟩; have TY1 := Aside.mk (TY.out.below hb); clear TY hb; have TY := TY1; clear TY1))
  replace TY := Aside.mk (TY.out.alloc (.cells #[.int .i64 y.l, .int .i64 y.n, .int .i64 y.p] 94))
  obtain ⟨b5, hb5⟩ : ∃ b, b = w2.heap.size := ⟨_, rfl⟩
  rw [← hb5]
  clear hb5
  generalize World.alloc w2 _ = w3 at TY ⊢
  obtain ⟨k0, k1, k2⟩ := TY.out.tr.cells
  have kz := TY.out.tr.frt
  go_upto_region 5 with (go_at_call 231; go_loud (refine (HRM.out _ TY.out.tr).mono ?_; rintro e w6 ⟨A', T', rfl, tw, hrem⟩; have HI := Aside.mk hrem; have TY1 := Aside.mk (TY.out.step tw.mod tw.tr); clear hrem tw TY k0 k1 k2 kz; have TY := TY1; clear TY1; obtain ⟨k0, k1, k2⟩ := TY.out.tr.cells; have kz := TY.out.tr.frt))
  replace TY := Aside.mk (And.intro (TY.out.tr.setRoot T'.root) ((TY.out.mod.mono (T := TS t a g) (fun k _ h => .inr h)).trans ((modB_set w6 t 1 (.int .u32 T'.root)).mono (T := TS t a g) (fun k _ h => .inl h))))
  clear k0 k1 k2 kz
  generalize World.setCell _ _ _ = w7 at TY ⊢
  obtain ⟨k0, k1, k2⟩ := TY.out.1.cells
  have kz := TY.out.1.frt
  go_wp2_with fail
  replace TY := Aside.mk (And.intro (TY.out.1.setLen (ln - 1)) (TY.out.2.trans ((modB_set w7 t 2 (.int .i64 (ln - 1))).mono (T := TS t a g) (fun k _ h => .inl h))))
  go_ret
  have hg := HGR.out A' T' HI.out
  obtain ⟨-, -, ys, zs, e1, e2⟩ := HI.out
  have hl : ((T'.xs.length : Nat) : Int) = ln - 1 := by
    rw [HLN.out, e1, e2]; simp; omega
  exact ⟨rfl, TY.out.2, A', T', ys, zs, ⟨by rw [hl]; exact TY.out.1, hg⟩, e1, e2⟩
end Lo
end Go.Proofs.YtjmhkcfdmcjilaaGreat
set_option linter.unusedVariables false
set_option linter.unusedSimpArgs false
namespace Go.Proofs.YtjmhkcfdmcjilaaGreat
namespace Lo
open Go.RowKit Ai Fi

/-- Nothing below L has turned, nor any block but L's that is no row of runs. -/
structure Vis (w w' : World) (L : Nat) : Prop where
  os : w'.os = w.os
  tape : w'.tape = w.tape
  output : w'.output = w.output
  size : w.heap.size ≤ w'.heap.size
  low : ∀ k, k < L → k < w.heap.size → w'.heap[k]? = w.heap[k]?
  typ : ∀ k, k < w.heap.size → k ≠ L → (∀ cur fr, w.heap[k]? ≠ some (.cells cur 94 fr)) → w'.heap[k]? = w.heap[k]?
theorem Vis.refl (w : World) (L : Nat) : Vis w w L := ⟨rfl, rfl, rfl, Nat.le_refl _, fun _ _ _ => rfl, fun _ _ _ _ => rfl⟩
theorem Vis.of_below {w w' : World} (h : Below w.heap.size w w') (L : Nat) : Vis w w' L := ⟨h.os, h.tape, h.output, h.size, fun k _ hk => h.block k hk, fun k hk _ _ => h.block k hk⟩
theorem Vis.trans {a b c : World} {L : Nat} (h : Vis a b L) (k : Vis b c L) : Vis a c L :=
  ⟨k.os.trans h.os, k.tape.trans h.tape, k.output.trans h.output, Nat.le_trans h.size k.size, fun j h1 h2 => (k.low j h1 (Nat.lt_of_lt_of_le h2 h.size)).trans (h.low j h1 h2),
    fun j h1 h2 h3 => (k.typ j (Nat.lt_of_lt_of_le h1 h.size) h2 (fun cur fr => by rw [h.typ j h1 h2 h3]; exact h3 cur fr)).trans (h.typ j h1 h2 h3)⟩

/-- The list that the visitor makes. -/
def Lst (W : World) (L : Nat) (xs : List Op3) : Prop := ∃ v, W.heap[L]? = some (.cells #[v] 33 (0, 0)) ∧ W.ownsRow (L + 1) 94 3 v xs.length (runV xs)
theorem Lst.lt {W : World} {L : Nat} {xs : List Op3} (h : Lst W L xs) : L < W.heap.size := by obtain ⟨v, h1, -⟩ := h; exact (Array.getElem?_eq_some_iff.1 h1).1
theorem Lst.below {W W' : World} {L : Nat} {xs : List Op3} (h : Lst W L xs) (hb : Below W.heap.size W W') : Lst W' L xs := by
  have := h.lt
  obtain ⟨v, h1, h2⟩ := h
  exact ⟨v, by rw [hb.block L this]; exact h1, own_below h2 hb⟩

theorem three_new2 (w : World) (o : Obj) (u v z : Value) (e : TypeId) : ∀ (j : Nat) (x : Value), [u, v, z][j]? = some x → ((w.alloc o).alloc (.cells #[u, v, z] e)).cell? ((⟨w.heap.size + 1, 0, none⟩ : Addr).add j) = some x := by
  intro j x hx
  have h := range_new (w.alloc o) [u, v, z] e (0, 0) j x hx
  have e1 : (w.alloc o).heap.size = w.heap.size + 1 := by simp
  rw [e1] at h
  rw [Addr.add_mid]
  exact h

theorem own_some {w : World} {base m : Nat} {e : TypeId} {size : Nat} {v : Value} {xs : List Value} (h : w.ownsRow base e size v (m + 1) xs) : ∃ g cap, v = .slice (some ⟨g, 0, none⟩) (m + 1) cap := by
  rcases h.2 with ⟨h1, h2⟩ | ⟨g, cap, cur, h1, _⟩
  · omega
  · exact ⟨g, cap, h1⟩
theorem heap_alloc2 (w : World) (o o' : Obj) {k : Nat} (h : k < w.heap.size) : ((w.alloc o).alloc o').heap[k]? = w.heap[k]? := by
  have h1 := (Below.refl w.heap.size w).alloc (Nat.le_refl _) o
  have h2 := h1.alloc h1.size o'
  exact h2.block k h

theorem Vis.of_grown {w w' : World} {L size n : Nat} {v : Value} {xs : List Value} (h : w.grownBy w' v.ownBlock) (ho : w.ownsRow (L + 1) 94 size v n xs) : Vis w w' L := by
  refine ⟨h.os, h.tape, h.output, h.size, fun k h1 h2 => h.block k h2 (fun e => by have := (ho.lt k e.symm).1; omega), fun k h1 h2 h3 => h.block k h1 (fun e => ?_)⟩
  rcases ho.2 with ⟨rfl, _⟩ | ⟨g, cap, cur, rfl, _, hg, _⟩
  · simp [Value.ownBlock] at e
  · simp only [Value.ownBlock, Option.some.injEq] at e
    subst e
    exact h3 cur _ hg
theorem Vis.set (w : World) (L j : Nat) (v : Value) : Vis w (w.setCell ⟨L, j, none⟩ v) L := by
  have h := modB_set w L j v
  exact ⟨h.os, h.tape, h.output, h.size, fun k h1 h2 => h.block k h2 (by omega), fun k h1 h2 _ => h.block k h1 h2⟩

def VisitPost (w : World) (L : Nat) (xs : List Op3) (e : Ending) (w' : World) : Prop := e = .returned (.tuple #[]) ∧ Vis w w' L ∧ Lst w' L xs

set_option maxHeartbeats 4000000 in
set_option maxRecDepth 100000 in
theorem visit_ok (w : World) (L : Nat) (xs : List Op3) (hL : Lst w L xs) (hn : xs.length ≤ 512) (i l r h b n p : Int) :
    Calls Tryz.prog 229 #[.agg #[.int .u32 i, .int .u32 l, .int .u32 r, .int .i64 h, .int .i64 b, .int .i64 n, .int .i64 p], .pointer (some ⟨L, 0, none⟩)] w (VisitPost w L (xs ++ [⟨b, n, p⟩])) := by
  have hlt := hL.lt
  have B0 := Aside.mk ((Below.refl w.heap.size w).alloc (Nat.le_refl _) (.cells #[.int .u32 i, .int .u32 l, .int .u32 r, .int .i64 h, .int .i64 b, .int .i64 n, .int .i64 p] 290))
  obtain ⟨v, h1, h2⟩ := hL
  have c0 : w.cell? ⟨L, 0, none⟩ = some v := by rw [cell_of_row _ _ _ _ _ _ h1]; rfl
  have z0 : w.frozen? ⟨L, 0, none⟩ = false := by simp [World.frozen?, h1]
  have H1 := Aside.mk h1
  have HO := Aside.mk h2
  obtain ⟨m, hm⟩ : ∃ m, m = xs.length := ⟨_, rfl⟩
  rw [← hm] at HO hn
  have HM := Aside.mk hm
  clear h1 h2 hm
  obtain ⟨i0, hi, hz0, hz1, hz2⟩ := info_parts info94
  go_enter Tryz.func229, Tryz.ntmps229
  go_wp2_with (first | (at_builtin; go_loud (refine wpList_append_own _ rfl (.tmp 3) (.tmp 6) 33 rfl (L + 1) 94 i0 (.agg #[(.int .i64 0), (.int .i64 0), (.int .i64 0)]) 3 24 Tryz.underlying33 hi hz0 hz1 hz2 rfl (by decide) v m (runV xs) rfl ((HO.out.alloc _).alloc _) ⟨w.heap.size + 1, 0, none⟩ 1 1 [.int .i64 b, .int .i64 n, .int .i64 p] rfl rfl (three_new2 w _ _ _ _ _) (by simp [Value.oneCell']) (by unfold maxLen; omega) (by omega) (by simp; omega) ?_; intro v' w2 hown2 hgrow2 hnil2; obtain ⟨g2, cap2, rfl⟩ := own_some hown2; have HO2 := Aside.mk hown2; have HG2 := Aside.mk hgrow2; have HL2 := Aside.mk ((hgrow2.block L (by simp; omega) (fun e => by have h3 := (HO.out.lt L e.symm).1; omega)).trans ((heap_alloc2 w _ _ hlt).trans H1.out)); have k0 := cell_of_row _ _ 0 _ _ _ HL2.out; have kz : w2.frozen? ⟨L, 0, none⟩ = false := (by simp [World.frozen?, HL2.out]); clear hown2 hgrow2 hnil2)))
  have hg2 : g2 ≠ L := by have := (HO2.out.lt g2 rfl).1; omega
  have V1 : Vis w w2 L := (Vis.of_below (((Below.refl w.heap.size w).alloc (Nat.le_refl _) _).alloc (by simp) _) L).trans (Vis.of_grown HG2.out ((HO.out.alloc _).alloc _))
  refine bodyPost_end (results_none rfl _ _ _) rfl ⟨rfl, V1.trans (Vis.set w2 L 0 _), _, by rw [heap_setCell_same w2 L 0 _ 33 _ HL2.out]; rfl, ?_⟩
  rw [List.length_append, runV_append, ← HM.out]
  exact own_set HO2.out hg2

def WalkPost (w : World) (L : Nat) (xs : List Op3) (e : Ending) (w' : World) : Prop := e = .returned (.tuple #[]) ∧ Vis w w' L ∧ Lst w' L xs

theorem TreeAt.vis {w w' : World} {t a g cap : Nat} {A : Ar} {root : Nat} {len : Int} {L : Nat} (h : TreeAt w t a g cap A root len) (hv : Vis w w' L) (ht : t < L) (ha : a < L) (hg : g < L) : TreeAt w' t a g cap A root len :=
  h.same (hv.low t ht h.ltt) (hv.low a ha h.ar.lta) (hv.low g hg h.ar.ltg)
theorem Bx.vis {w W W' : World} {b : Nat} {x : Nd} {L : Nat} (h : Bx w W b x) (hv : Vis W W' L) (hb : b ≠ L) : Bx w W' b x :=
  ⟨(hv.typ b h.lt hb (fun cur fr => by rw [h.box]; simp)).trans h.box, h.hb⟩

def op3 (x : Id3) : Op3 := ⟨x.b, x.n, x.p⟩

set_option maxHeartbeats 4000000 in
set_option maxRecDepth 100000 in
theorem twalk_ok (t a g cap : Nat) (A : Ar) (root : Nat) (len : Int) (L : Nat) (ht : t < L) (ha : a < L) (hg : g < L) :
    ∀ (T : Tr), Rep A T → ∀ (xs : List Op3), xs.length + T.xs.length ≤ 512 → ∀ w, TreeAt w t a g cap A root len → Lst w L xs →
    Calls Tryz.prog 228 #[.pointer (some ⟨t, 0, none⟩), .int .u32 T.root, .func (.func 229) #[] #[.pointer (some ⟨L, 0, none⟩)]] w (WalkPost w L (xs ++ T.xs.map op3)) := by
  intro T
  induction T with
  | nil =>
    intro hr xs hn w hT hL
    have HL := Aside.mk hL
    simp only [Tr.root, Tr.xs, List.map_nil, List.append_nil]
    clear hL hT hr hn
    go_enter Tryz.func228, Tryz.ntmps228
    go_wp2_with fail
    refine bodyPost_ret (results_none rfl _ _ _) rfl ?_
    exact ⟨rfl, Vis.refl _ _, HL.out⟩
  | node i l r b n p ihl ihr =>
    intro hr xs hn w hT hL
    have hlen : xs.length + (l.xs.length + r.xs.length + 1) ≤ 512 := by simp only [Tr.xs, List.length_append, List.length_cons] at hn; omega
    have hi : i < 4294967296 := by have := hr.2.1; omega
    have hi0 : ¬ (i : Int) = 0 := by have := hr.1; omega
    have HG := Aside.mk (fun (W : World) (h : TreeAt W t a g cap A root len) => get_ok W t a g cap A root len h i hi)
    rw [hr.get] at HG
    have IHL := Aside.mk (ihl hr.2.2.2.2.1 xs (by omega))
    have IHR := Aside.mk (ihr hr.2.2.2.2.2 (xs ++ l.xs.map op3 ++ [⟨b, n, p⟩]) (by simp; omega))
    have HV := Aside.mk (fun (W : World) (h : Lst W L (xs ++ l.xs.map op3)) (u1 u2 u3 u4 : Int) => visit_ok W L _ h (by simp; omega) u1 u2 u3 u4 b n p)
    have TT := Aside.mk hT
    have HL := Aside.mk hL
    have V0 := Aside.mk (Vis.refl w L)
    obtain ⟨nd, hnode⟩ : ∃ nd : Nd, nd = ⟨l.root, r.root, 1 + max l.ht r.ht, b, n, p⟩ := ⟨_, rfl⟩
    rw [← hnode] at HG
    have eld : nd.l = l.root := by rw [hnode]
    have erd : nd.r = r.root := by rw [hnode]
    have ebd : nd.b = b := by rw [hnode]
    have end' : nd.n = n := by rw [hnode]
    have epd : nd.p = p := by rw [hnode]
    rw [← eld] at IHL
    rw [← erd] at IHR
    rw [← ebd, ← end', ← epd] at HV IHR
    have ex : xs ++ (Tr.node i l r b n p).xs.map op3 = (xs ++ l.xs.map op3 ++ [⟨b, n, p⟩]) ++ r.xs.map op3 := by simp [Tr.xs, op3]
    rw [ex, ← ebd, ← end', ← epd, Tr.root_node]
    clear hr hn hT hL ihl ihr hlen hnode eld erd ebd end' epd ex
    generalize xs ++ l.xs.map op3 = ys at IHL IHR HV ⊢
    generalize ys ++ [⟨nd.b, nd.n, nd.p⟩] = zs at IHR HV ⊢
    generalize zs ++ r.xs.map op3 = vs at IHR ⊢
    go_enter Tryz.func228, Tryz.ntmps228
    go_upto_region 2 with (go_at_call 227; go_loud (refine (HG.out _ TT.out).mono ?_; rintro e w1 ⟨rfl, hb⟩; have TT1 := Aside.mk (TT.out.below hb); have HL1 := Aside.mk (HL.out.below hb); have V1 := Aside.mk (V0.out.trans (Vis.of_below hb L)); clear TT HL V0 hb; have TT := TT1; have HL := HL1; have V0 := V1; clear TT1 HL1 V1))
    have B6 := Aside.mk (Bx.new (w := w) w1 nd V0.out.size)
    have hne : w1.heap.size ≠ L := Nat.ne_of_gt HL.out.lt
    have hbl := Aside.mk ((Below.refl w1.heap.size w1).alloc (Nat.le_refl _) (.cells #[.int .u32 nd.l, .int .u32 nd.r, .int .i64 nd.h, .int .i64 nd.b, .int .i64 nd.n, .int .i64 nd.p] 221))
    replace TT := Aside.mk (TT.out.below hbl.out)
    replace HL := Aside.mk (HL.out.below hbl.out)
    replace V0 := Aside.mk (V0.out.trans (Vis.of_below hbl.out L))
    clear hbl
    obtain ⟨b6, hb6⟩ : ∃ b, b = w1.heap.size := ⟨_, rfl⟩
    rw [← hb6] at B6 hne ⊢
    clear hb6
    generalize World.alloc w1 _ = w2 at TT HL V0 B6 ⊢
    obtain ⟨f0, f1, f2, f3, f4, f5, fz⟩ := B6.out.facts
    go_upto_region 3 with (go_at_call 228; go_loud (refine (IHL.out _ TT.out HL.out).mono ?_; rintro e w3 ⟨rfl, hv, hl⟩; have TT1 := Aside.mk (TT.out.vis hv ht ha hg); have HL1 := Aside.mk hl; have V1 := Aside.mk (V0.out.trans hv); have B61 := Aside.mk (B6.out.vis hv hne); clear TT HL V0 B6 hv hl f0 f1 f2 f3 f4 f5 fz; have TT := TT1; have HL := HL1; have V0 := V1; have B6 := B61; clear TT1 HL1 V1 B61; obtain ⟨f0, f1, f2, f3, f4, f5, fz⟩ := B6.out.facts))
    go_upto_region 4 with (go_at_call 229; go_loud (refine (HV.out _ HL.out _ _ _ _).mono ?_; rintro e w4 ⟨rfl, hv, hl⟩; have TT1 := Aside.mk (TT.out.vis hv ht ha hg); have HL1 := Aside.mk hl; have V1 := Aside.mk (V0.out.trans hv); have B61 := Aside.mk (B6.out.vis hv hne); clear TT HL V0 B6 hv hl f0 f1 f2 f3 f4 f5 fz; have TT := TT1; have HL := HL1; have V0 := V1; have B6 := B61; clear TT1 HL1 V1 B61; obtain ⟨f0, f1, f2, f3, f4, f5, fz⟩ := B6.out.facts))
    go_wp2_with (go_at_call 228; go_loud (refine (IHR.out _ TT.out HL.out).mono ?_; rintro e w5 ⟨rfl, hv, hl⟩; have HL1 := Aside.mk hl; have V1 := Aside.mk (V0.out.trans hv); clear TT HL V0 B6 hv hl f0 f1 f2 f3 f4 f5 fz; have HL := HL1; have V0 := V1; clear HL1 V1))
    refine bodyPost_end (results_none rfl _ _ _) rfl ?_
    exact ⟨rfl, V0.out, HL.out⟩
end Lo
end Go.Proofs.YtjmhkcfdmcjilaaGreat
/- Walks: the arena's New, the tree's New, the New of a map of runs. -/
/- Walks: the tree's All, Len, New; the arena's New. -/
set_option linter.unusedVariables false
set_option linter.unusedSimpArgs false
namespace Go.Proofs.YtjmhkcfdmcjilaaGreat
namespace Lo
open Go.RowKit Ai Fi

def AllPost (w : World) (xs : List Op3) (e : Ending) (w' : World) : Prop := ∃ v', e = .returned v' ∧ w'.ownsRow w.heap.size 94 3 v' xs.length (runV xs) ∧ Below w.heap.size w w'

set_option maxHeartbeats 4000000 in
set_option maxRecDepth 100000 in
theorem tall_ok (w : World) (t a g cap : Nat) (A : Ar) (len : Int) (T : Tr) (hr : Rep A T) (hn : T.xs.length ≤ 512) (hT : TreeAt w t a g cap A T.root len) :
    Calls Tryz.prog 222 #[.pointer (some ⟨t, 0, none⟩)] w (AllPost w (T.xs.map op3)) := by
  have B0 := Aside.mk ((Below.refl w.heap.size w).alloc (Nat.le_refl _) (.cells #[.slice none 0 0] 33))
  have HW := Aside.mk (twalk_ok t a g cap A T.root len w.heap.size hT.ltt hT.ar.lta hT.ar.ltg T hr [] (by simpa using hn) _ (hT.below B0.out) ⟨.slice none 0 0, heap_alloc_new w _, World.ownsRow_nil _ _ _ _⟩)
  obtain ⟨c0, c1, c2⟩ := hT.cells
  have hlt := hT.ltt
  rw [List.nil_append] at HW
  obtain ⟨root, hroot⟩ : ∃ root, root = T.root := ⟨_, rfl⟩
  rw [← hroot] at HW c1
  clear hT hr hn hroot
  generalize T.xs.map op3 = xs at HW ⊢
  go_enter Tryz.func222, Tryz.ntmps222
  go_upto_region 3 with (go_at_call 228; go_loud (refine HW.out.mono ?_; rintro e w2 ⟨rfl, hv, hl⟩; obtain ⟨v, h1, h2⟩ := hl; have HO := Aside.mk h2; have HB := Aside.mk (B0.out.trans (⟨hv.os, hv.tape, hv.output, hv.size, fun k hk => hv.low k hk (by simp; omega)⟩ : Below w.heap.size _ w2)); have k0 := cell_of_row _ _ 0 _ _ _ h1; clear hv h1 h2))
  go_wp2_with fail
  go_ret
  exact ⟨v, rfl, own_base HO.out (by omega), HB.out⟩

set_option maxHeartbeats 4000000 in
set_option maxRecDepth 100000 in
theorem tlen_ok (w : World) (t a g cap : Nat) (A : Ar) (root : Nat) (len : Int) (hT : TreeAt w t a g cap A root len) :
    Calls Tryz.prog 219 #[.pointer (some ⟨t, 0, none⟩)] w fun e w' => e = .returned (.int .i64 len) ∧ w' = w := by
  obtain ⟨c0, c1, c2⟩ := hT.cells
  clear hT
  go_enter Tryz.func219, Tryz.ntmps219
  go_wp2_with fail
  go_ret
  exact ⟨rfl, rfl⟩
end Lo
end Go.Proofs.YtjmhkcfdmcjilaaGreat
set_option linter.unusedVariables false
set_option linter.unusedSimpArgs false
namespace Go.Proofs.YtjmhkcfdmcjilaaGreat
namespace Lo
open Go.RowKit Ai Fi

theorem info223 : (Tryz.prog.info? 223).map (fun i => (i.zero, i.size, i.bytes)) = some (some (.agg #[.bool false, .int .u32 0, .int .u32 0, .int .u32 0, .int .i64 0, .int .i64 0, .int .i64 0, .int .i64 0]), 8, 48) := by kernel_rfl

/-- A new arena whose free list is laid as far as k. -/
def fresh (k : Nat) : Ar := { pl := fun j => ⟨false, if 1 ≤ j ∧ j < k then j + 1 else 0, Nd.zero⟩, free := 1, live := 0 }

theorem ArAt.setNext {w : World} {a g cap : Nat} {A : Ar} (h : ArAt w a g cap A) {i : Nat} (hi : i < 513) (n : Nat) : ArAt (w.setCell ⟨g, i * 8 + 1, none⟩ (.int .u32 n)) a g cap (A.set i { A.pl i with next := n }) := by
  have out : ∀ o, o ≠ i * 8 + 1 → (w.setCell ⟨g, i * 8 + 1, none⟩ (.int .u32 n)).cell? ⟨g, o, none⟩ = w.cell? ⟨g, o, none⟩ := fun o ho => World.cell?_setCell_other w _ _ _ (by intro e; simp only [Addr.mk.injEq, and_true, true_and] at e; omega)
  have fr : ∀ o, (w.setCell ⟨g, i * 8 + 1, none⟩ (.int .u32 n)).frozen? ⟨g, o, none⟩ = w.frozen? ⟨g, o, none⟩ := fun o => by
    have := World.frozen?_setCells g [Value.int .u32 n] (i * 8 + 1) w ⟨g, o, none⟩
    exact this
  refine ⟨by rw [heap_setCell_other w ⟨g, i * 8 + 1, none⟩ a _ (Ne.symm h.ne)]; exact h.obj, fun j hj => ?_, fun j hj => ?_, fun j hj k v hk => ?_, fun j => by rw [fr]; exact h.fr j, h.ne⟩
  · rw [out _ (by omega), h.live j hj]
    simp only [Ar.set]; split
    · rename_i e; subst e; rfl
    · rfl
  · by_cases e : j = i
    · subst e
      simp only [Ar.set, if_true]
      exact World.cell?_setCell_same w _ _ (h.next j hj)
    · rw [out _ (by omega), h.next j hj]
      simp only [Ar.set, if_neg e]
  · have hk6 : k < 6 := by
      have := (List.getElem?_eq_some_iff.1 hk).1
      simpa [Nd.cells] using this
    rw [out _ (by omega)]
    refine h.node j hj k v ?_
    rw [← hk]
    simp only [Ar.set]; split
    · rename_i e; subst e; rfl
    · rfl

theorem fresh_succ (k : Nat) (hk : 1 ≤ k) : (fresh k).set k { (fresh k).pl k with next := k + 1 } = fresh (k + 1) := by
  simp only [fresh, Ar.set, Ar.mk.injEq, and_true]
  funext j
  by_cases e : j = k
  · subst e
    have h1 : 1 ≤ j ∧ j < j + 1 := by omega
    simp [h1]
  · by_cases h : 1 ≤ j ∧ j < k
    · have h2 : 1 ≤ j ∧ j < k + 1 := by omega
      simp [e, h, h2]
    · have h2 : ¬ (1 ≤ j ∧ j < k + 1) := by omega
      simp [e, h, h2]

/-- Rows of one value over and over. -/
theorem ArAt.made {w : World} {a g cap : Nat} (hg : g ≠ a) (hobj : w.heap[a]? = some (.cells #[.slice (some ⟨g, 0, none⟩) 513 cap, .int .u32 1, .int .i64 0] 219 (0, 0)))
    (hr : ∀ o, o < 4104 → w.cell? ⟨g, o, none⟩ = #[Value.bool false, .int .u32 0, .int .u32 0, .int .u32 0, .int .i64 0, .int .i64 0, .int .i64 0, .int .i64 0][o % 8]?) (hf : ∀ j, w.frozen? ⟨g, j, none⟩ = false) : ArAt w a g cap (fresh 1) := by
  refine ⟨hobj, fun i hi => ?_, fun i hi => ?_, fun i hi k v hk => ?_, hf, hg⟩
  · rw [hr _ (by omega), show i * 8 % 8 = 0 by omega]; rfl
  · have h2 : ¬ (1 ≤ i ∧ i < 1) := by omega
    rw [hr _ (by omega), show (i * 8 + 1) % 8 = 1 by omega]
    show _ = some (Value.int .u32 ((if 1 ≤ i ∧ i < 1 then i + 1 else 0 : Nat) : Int))
    rw [if_neg h2]; rfl
  · have hk6 : k < 6 := by
      have := (List.getElem?_eq_some_iff.1 hk).1
      simpa [Nd.cells] using this
    rw [hr _ (by omega), show (i * 8 + 2 + k) % 8 = 2 + k by omega, ← hk]
    rcases k with _ | _ | _ | _ | _ | _ | k <;> first | rfl | omega

theorem made_at (z : Array Value) (n o : Nat) (h : o < n) (hz : 0 < z.size) : (madeCells z n).toList[o]? = z[o % z.size]? := by
  have h1 : o % z.size < z.size := Nat.mod_lt _ hz
  rw [Array.getElem?_toList]
  simp [madeCells, h, h1]

def NewArPost (w : World) (e : Ending) (w' : World) : Prop := ∃ a g, e = .returned (.tuple #[.pointer (some ⟨a, 0, none⟩), .int .i64 0]) ∧ Below w.heap.size w w' ∧ w.heap.size ≤ a ∧ w.heap.size ≤ g ∧ ArAt w' a g 513 (fresh 512)

set_option maxHeartbeats 4000000 in
set_option maxRecDepth 100000 in
theorem newAr_ok (w : World) : Calls Tryz.prog 100 #[.int .i64 512] w (NewArPost w) := by
  obtain ⟨i0, hi⟩ : ∃ i, Tryz.prog.info? 223 = some i := by
    have := info223
    cases h : Tryz.prog.info? 223 with
    | none => rw [h] at this; simp at this
    | some i => exact ⟨i, rfl⟩
  have hinf := info223
  rw [hi] at hinf
  simp only [Option.map_some, Option.some.injEq, Prod.mk.injEq] at hinf
  obtain ⟨hz0, hz1, hz2⟩ := hinf
  go_enter Tryz.func100, Tryz.ntmps100
  go_wp2_with (first | (refine wpList_make_full _ rfl (.tmp 13) (.tmp 13) 217 rfl w.heap.size 223 i0 _ 8 Tryz.underlying217 hi hz0 hz1 .i64 .i64 513 513 513 rfl rfl rfl rfl (by rw [hz2]; decide) (by decide) (Nat.le_refl _) ?_; intro w1 hown hgrow; have HO := Ai.Aside.mk hown; have HG := Ai.Aside.mk hgrow; clear hown hgrow))
  have hgs : w.heap.size < w1.heap.size := (HO.out.lt w.heap.size rfl).2
  have hB1 := (Below.refl w.heap.size w).grown HG.out (Nat.le_refl _) (fun k hk => by cases hk)
  have HB := Ai.Aside.mk (hB1.alloc (Nat.le_of_lt hgs) (.cells #[.slice (some ⟨w.heap.size, 0, none⟩) 513 513, .int .u32 1, .int .i64 0] 219))
  have HB2 := (Below.refl w1.heap.size w1).alloc (Nat.le_refl _) (.cells #[.slice (some ⟨w.heap.size, 0, none⟩) 513 513, .int .u32 1, .int .i64 0] 219)
  have hO2 := own_below HO.out HB2
  have HA := Ai.Aside.mk (ArAt.made (cap := 513) (Nat.ne_of_lt hgs) (heap_alloc_new w1 _) (fun o ho => by
    rw [hO2.cellAt o (by omega), made_at _ _ _ (by omega) (by simp [Value.cells])]; rfl) (fun j => hO2.frozenAt j))
  clear hB1 HB2 hO2 HO HG hz0 hz1 hz2 hi
  obtain ⟨g, hg⟩ : ∃ g, g = w.heap.size := ⟨_, rfl⟩
  obtain ⟨a, ha⟩ : ∃ a, a = w1.heap.size := ⟨_, rfl⟩
  have HGA := Ai.Aside.mk (And.intro hg (show w.heap.size ≤ a by omega))
  rw [← ha, ← hg] at HA
  rw [← hg] at HB
  rw [← ha, ← hg]
  clear hgs ha hg
  generalize World.alloc w1 _ = w2 at HA HB ⊢
  go_loopw [5] (fun v5 wr => ∃ (k : Nat), 1 ≤ k ∧ k ≤ 512 ∧ v5 = .int .i64 k ∧ Ai.Aside (ArAt wr a g 513 (fresh k) ∧ Below w.heap.size w wr)) (fun v5 _ => 512 - (intOf v5).toNat)
  case atStart => exact ⟨1, by omega, by omega, rfl, ⟨HA.out, by have := HB.out; rw [HGA.out.1] at this; exact this⟩⟩
  case round =>
    obtain ⟨k, hk1, hk2, rfl, HR⟩ := hrel
    clear HA HB
    by_cases hk : k < 512
    · obtain ⟨c0, -, -⟩ := HR.out.1.cells
      have hn := HR.out.1.next k (by omega)
      have hz := HR.out.1.fr (k * 8 + 1)
      have hmod : ((k : Int) + 1) % 4294967296 = ((k + 1 : Nat) : Int) := by omega
      go_wp2_with fail
      have HA2 := Ai.Aside.mk (HR.out.1.setNext (show k < 513 by omega) (k + 1))
      rw [fresh_succ k hk1] at HA2
      have HB2 := Ai.Aside.mk (HR.out.2.setCell (p := ⟨g, k * 8 + 1, none⟩) (by show w.heap.size ≤ g; rw [HGA.out.1]; exact Nat.le_refl _) (.int .u32 ((k + 1 : Nat) : Int)))
      go_roundw
      case rel => exact ⟨k + 1, by omega, by omega, by go_num, ⟨HA2.out, HB2.out⟩⟩
      case measure => simp [intOf]; omega
    · have : k = 512 := by omega
      subst this
      go_wp2_with fail
      go_ret2
      exact ⟨a, g, rfl, HR.out.2, HGA.out.2, by rw [HGA.out.1]; exact Nat.le_refl _, HR.out.1⟩
end Lo
end Go.Proofs.YtjmhkcfdmcjilaaGreat
set_option linter.unusedVariables false
set_option linter.unusedSimpArgs false
namespace Go.Proofs.YtjmhkcfdmcjilaaGreat
namespace Lo
open Go.RowKit Ai Fi

theorem chain_fresh : ∀ (m k : Nat), k + m = 512 → 1 ≤ k → Chain (fresh 512) k (List.range' k (m + 1))
  | 0, k, h, hk => by
    have : k = 512 := by omega
    subst this
    exact ⟨rfl, by omega, by omega, rfl, rfl⟩
  | m + 1, k, h, hk => by
    have h1 : 1 ≤ k ∧ k < 512 := by omega
    refine ⟨rfl, by omega, by omega, rfl, ?_⟩
    have e : ((fresh 512).pl k).next = k + 1 := by
      show (if 1 ≤ k ∧ k < 512 then k + 1 else 0) = k + 1
      rw [if_pos h1]
    rw [e]
    exact chain_fresh m (k + 1) (by omega) (by omega)

theorem good_new : Good (fresh 512) .nil := by
  have hg : ∀ j, (fresh 512).get j = Nd.zero := fun j => by
    unfold Ar.get
    have : (fresh 512).has j = false := by simp [Ar.has, fresh]
    rw [this]; rfl
  refine ⟨rfl, fun j => by rw [hg]; decide, fun j => by rw [hg]; decide, trivial, by simp [Tr.xs, ids], by simp [Tr.xs, Sorted], List.range' 1 512, chain_fresh 511 1 (by omega) (by omega), List.nodup_range', by simp [Tr.xs]⟩

/-- A map of runs. -/
structure RMap (w : World) (m t a g : Nat) (n : Int) (A : Ar) (T : Tr) : Prop where
  obj : w.heap[m]? = some (.cells #[.int .i64 n, .int .i64 512, .pointer (some ⟨a, 0, none⟩), .pointer (some ⟨t, 0, none⟩)] 180 (0, 0))
  tr : TrAt w t a g 513 A T
  nm : ¬ TS t a g m
theorem RMap.ltm {w : World} {m t a g : Nat} {n : Int} {A : Ar} {T : Tr} (h : RMap w m t a g n A T) : m < w.heap.size := (Array.getElem?_eq_some_iff.1 h.obj).1
theorem RMap.cells {w : World} {m t a g : Nat} {n : Int} {A : Ar} {T : Tr} (h : RMap w m t a g n A T) :
    w.cell? ⟨m, 0, none⟩ = some (.int .i64 n) ∧ w.cell? ⟨m, 1, none⟩ = some (.int .i64 512) ∧ w.cell? ⟨m, 2, none⟩ = some (.pointer (some ⟨a, 0, none⟩)) ∧ w.cell? ⟨m, 3, none⟩ = some (.pointer (some ⟨t, 0, none⟩)) :=
  ⟨by rw [cell_of_row _ _ _ _ _ _ h.obj]; rfl, by rw [cell_of_row _ _ _ _ _ _ h.obj]; rfl, by rw [cell_of_row _ _ _ _ _ _ h.obj]; rfl, by rw [cell_of_row _ _ _ _ _ _ h.obj]; rfl⟩
theorem RMap.same {w w' : World} {m t a g : Nat} {n : Int} {A : Ar} {T : Tr} (h : RMap w m t a g n A T) (em : w'.heap[m]? = w.heap[m]?) (et : w'.heap[t]? = w.heap[t]?) (ea : w'.heap[a]? = w.heap[a]?) (eg : w'.heap[g]? = w.heap[g]?) : RMap w' m t a g n A T :=
  ⟨by rw [em]; exact h.obj, ⟨h.tr.tr.same et ea eg, h.tr.good⟩, h.nm⟩
theorem RMap.below {w w' : World} {m t a g : Nat} {n : Int} {A : Ar} {T : Tr} (h : RMap w m t a g n A T) (hb : Below w.heap.size w w') : RMap w' m t a g n A T :=
  h.same (hb.block m h.ltm) (hb.block t h.tr.tr.ltt) (hb.block a h.tr.tr.ar.lta) (hb.block g h.tr.tr.ar.ltg)

def NewTrPost (w : World) (a g : Nat) (e : Ending) (w' : World) : Prop := e = .returned (.pointer (some ⟨w.heap.size, 0, none⟩)) ∧ Below w.heap.size w w' ∧ w.heap.size < w'.heap.size ∧ TreeAt w' w.heap.size a g 513 (fresh 512) 0 0

set_option maxHeartbeats 4000000 in
set_option maxRecDepth 100000 in
theorem newTr_ok (w : World) (a g : Nat) (hA : ArAt w a g 513 (fresh 512)) : Calls Tryz.prog 101 #[.pointer (some ⟨a, 0, none⟩)] w (NewTrPost w a g) := by
  have HA := Ai.Aside.mk hA
  have HB := Ai.Aside.mk ((Below.refl w.heap.size w).alloc (Nat.le_refl _) (.cells #[.pointer (some ⟨a, 0, none⟩), .int .u32 0, .int .i64 0] 225))
  clear hA
  go_enter Tryz.func101, Tryz.ntmps101
  go_wp2_with fail
  go_ret
  exact ⟨rfl, HB.out, by simp, heap_alloc_new w _, HA.out.below HB.out, Nat.ne_of_gt HA.out.lta, Nat.ne_of_gt HA.out.ltg⟩

def NewRPost (w : World) (n : Int) (e : Ending) (w' : World) : Prop := ∃ m t a g, e = .returned (.tuple #[.pointer (some ⟨m, 0, none⟩), .int .i64 0]) ∧ Below w.heap.size w w' ∧ w.heap.size ≤ m ∧ w.heap.size ≤ t ∧ w.heap.size ≤ a ∧ w.heap.size ≤ g ∧ RMap w' m t a g n (fresh 512) .nil

set_option maxHeartbeats 4000000 in
set_option maxRecDepth 100000 in
theorem newR_ok (w : World) (n : Int) (hn : 1 ≤ n ∧ n ≤ 512) : Calls Tryz.prog 62 #[.int .i64 n, .int .i64 512] w (NewRPost w n) := by
  have HAR := Ai.Aside.mk (newAr_ok w)
  have HTR := Ai.Aside.mk newTr_ok
  go_enter Tryz.func62, Tryz.ntmps62
  go_wp2_with (first | (go_at_call 100; go_loud (refine HAR.out.mono ?_; rintro e w1 ⟨a, g, rfl, hb, ha, hg, hA⟩; have HA := Ai.Aside.mk hA; have HB := Ai.Aside.mk hb; have HAG := Ai.Aside.mk (And.intro ha hg); clear hb ha hg hA)) | (go_at_call 101; go_loud (refine (HTR.out _ a g HA.out).mono ?_; rintro e w2 ⟨rfl, hb, hs, hT⟩; have HT := Ai.Aside.mk hT; have HB2 := Ai.Aside.mk (HB.out.trans (hb.mono HB.out.size)); have HS := Ai.Aside.mk hs; clear hb hT hs)))
  go_ret2
  have h1 := HB.out.size
  have hl := HT.out.ltt
  have hla := HT.out.ar.lta
  have hlg := HT.out.ar.ltg
  have HB3 := (Below.refl w2.heap.size w2).alloc (Nat.le_refl _) (.cells #[.int .i64 n, .int .i64 512, .pointer (some ⟨a, 0, none⟩), .pointer (some ⟨w1.heap.size, 0, none⟩)] 180)
  refine ⟨w2.heap.size, w1.heap.size, a, g, rfl, HB2.out.trans (HB3.mono HB2.out.size), HB2.out.size, h1, HAG.out.1, HAG.out.2, heap_alloc_new w2 _, ⟨HT.out.below HB3, good_new⟩, ?_⟩
  unfold TS
  omega
end Lo
end Go.Proofs.YtjmhkcfdmcjilaaGreat
/- Walks of the map of runs: end, join, right, Capacity, Most, Runs. -/
set_option linter.unusedVariables false
set_option linter.unusedSimpArgs false
namespace Go.Proofs.YtjmhkcfdmcjilaaGreat
namespace Lo
open Go.RowKit Ai Fi

/-- A run whose numbers are small. -/
def Fit (x : Op3) : Prop := 0 ≤ x.l ∧ x.l ≤ 1073741824 ∧ 0 ≤ x.n ∧ x.n ≤ 1073741824 ∧ 0 ≤ x.p ∧ x.p ≤ 1073741824

def EndPost (w : World) (r : Int) (e : Ending) (w' : World) : Prop := e = .returned (.int .i64 r) ∧ Below w.heap.size w w'

set_option maxHeartbeats 4000000 in
set_option maxRecDepth 100000 in
theorem end_ok (w : World) (x : Op3) (hx : Fit x) : Calls Tryz.prog 221 #[.agg #[.int .i64 x.l, .int .i64 x.n, .int .i64 x.p]] w (EndPost w (x.l + x.n)) := by
  have HB := Ai.Aside.mk ((Below.refl w.heap.size w).alloc (Nat.le_refl _) (.cells #[.int .i64 x.l, .int .i64 x.n, .int .i64 x.p] 94))
  unfold Fit at hx
  go_enter Tryz.func221, Tryz.ntmps221
  go_wp2_with fail
  go_ret
  exact ⟨rfl, HB.out⟩

theorem rx_second (w : World) (a b : Op3) : Rx w ((w.alloc (.cells #[.int .i64 a.l, .int .i64 a.n, .int .i64 a.p] 94)).alloc (.cells #[.int .i64 b.l, .int .i64 b.n, .int .i64 b.p] 94)) (w.heap.size + 1) b := by
  have h := Rx.new (w := w) (w.alloc (.cells #[.int .i64 a.l, .int .i64 a.n, .int .i64 a.p] 94)) b (by simp)
  simpa using h
theorem rx_third (w : World) (a b : Op3) : Rx w (((w.alloc (.cells #[.int .i64 a.l, .int .i64 a.n, .int .i64 a.p] 94)).alloc (.cells #[.int .i64 b.l, .int .i64 b.n, .int .i64 b.p] 94)).alloc (.cells #[.int .i64 0, .int .i64 0, .int .i64 0] 94)) (w.heap.size + 1 + 1) ⟨0, 0, 0⟩ := by
  have h := Rx.new (w := w) ((w.alloc (.cells #[.int .i64 a.l, .int .i64 a.n, .int .i64 a.p] 94)).alloc (.cells #[.int .i64 b.l, .int .i64 b.n, .int .i64 b.p] 94)) ⟨0, 0, 0⟩ (by simp; omega)
  simpa using h

def joins (a b : Op3) : Bool := decide (a.l + a.n = b.l ∧ a.p + a.n = b.p)
def joined (a b : Op3) : Op3 := if joins a b then ⟨a.l, a.n + b.n, a.p⟩ else ⟨0, 0, 0⟩
def JoinPost (w : World) (a b : Op3) (e : Ending) (w' : World) : Prop := e = .returned (.tuple #[.agg #[.int .i64 (joined a b).l, .int .i64 (joined a b).n, .int .i64 (joined a b).p], .bool (joins a b)]) ∧ Below w.heap.size w w'

set_option maxHeartbeats 8000000 in
set_option maxRecDepth 100000 in
theorem join_ok (w : World) (a b : Op3) (ha : Fit a) (hb : Fit b) : Calls Tryz.prog 226 #[.agg #[.int .i64 a.l, .int .i64 a.n, .int .i64 a.p], .agg #[.int .i64 b.l, .int .i64 b.n, .int .i64 b.p]] w (JoinPost w a b) := by
  have HE := Ai.Aside.mk (fun W => end_ok W a ha)
  have HJ := Ai.Aside.mk (show joined a b = joined a b from rfl)
  unfold Fit at ha hb
  have hw1 : IntKind.i64.wrap (a.p + a.n) = a.p + a.n := by rw [IntKind.wrap_i64]; omega
  have hw2 : IntKind.i64.wrap (a.n + b.n) = a.n + b.n := by rw [IntKind.wrap_i64]; omega
  have hw1' : wrap64 (a.p + a.n) = a.p + a.n := by unfold wrap64; omega
  have hw2' : wrap64 (a.n + b.n) = a.n + b.n := by unfold wrap64; omega
  by_cases h1 : a.l + a.n = b.l
  · have g1 : (a.l + a.n == b.l) = true := by simp [h1]
    have H1 := Ai.Aside.mk h1
    clear h1
    by_cases h2 : a.p + a.n = b.p
    · have g2 : (a.p + a.n == b.p) = true := by simp [h2]
      have H2 := Ai.Aside.mk h2
      clear h2
      go_enter Tryz.func226, Tryz.ntmps226
      go_upto_region 1 with fail
      have R2 := Ai.Aside.mk (((Rx.new (w := w) w a (Nat.le_refl _)).alloc (.cells #[.int .i64 b.l, .int .i64 b.n, .int .i64 b.p] 94)).alloc (.cells #[.int .i64 0, .int .i64 0, .int .i64 0] 94))
      have R3 := Ai.Aside.mk ((rx_second w a b).alloc (.cells #[.int .i64 0, .int .i64 0, .int .i64 0] 94))
      have R4 := Ai.Aside.mk (rx_third w a b)
      have BB := Ai.Aside.mk ((((Below.refl w.heap.size w).alloc (Nat.le_refl _) (.cells #[.int .i64 a.l, .int .i64 a.n, .int .i64 a.p] 94)).alloc (by simp) (.cells #[.int .i64 b.l, .int .i64 b.n, .int .i64 b.p] 94)).alloc (by simp; omega) (.cells #[.int .i64 0, .int .i64 0, .int .i64 0] 94))
      generalize World.alloc _ _ = W1 at R2 R3 R4 BB ⊢
      obtain ⟨b2, hb2⟩ : ∃ b2, b2 = w.heap.size := ⟨_, rfl⟩
      obtain ⟨b3, hb3⟩ : ∃ b3, b3 = w.heap.size + 1 := ⟨_, rfl⟩
      obtain ⟨b4, hb4⟩ : ∃ b4, b4 = w.heap.size + 1 + 1 := ⟨_, rfl⟩
      rw [← hb4] at R4 ⊢
      rw [← hb3] at R3 ⊢
      rw [← hb2] at R2 ⊢
      have HN := Ai.Aside.mk (show b2 ≠ b4 ∧ b3 ≠ b4 ∧ w.heap.size ≤ b4 by omega)
      clear hb2 hb3 hb4
      obtain ⟨f0, f1, f2, -, -, -⟩ := R2.out.facts
      obtain ⟨g0, g1', g2', -, -, -⟩ := R3.out.facts
      replace R2 := Ai.Aside.mk (R2.out.below (Below.refl _ W1).drew)
      replace R3 := Ai.Aside.mk (R3.out.below (Below.refl _ W1).drew)
      replace R4 := Ai.Aside.mk (R4.out.below (Below.refl _ W1).drew)
      replace BB := Ai.Aside.mk (BB.out.trans ((Below.refl _ W1).drew.mono BB.out.size))
      go_region_held3 (fun W' => W'.cell? ⟨b2, 0, none⟩ = some (.int .i64 a.l) ∧ W'.cell? ⟨b2, 1, none⟩ = some (.int .i64 a.n) ∧ W'.cell? ⟨b2, 2, none⟩ = some (.int .i64 a.p) ∧ W'.cell? ⟨b3, 0, none⟩ = some (.int .i64 b.l) ∧ W'.cell? ⟨b3, 2, none⟩ = some (.int .i64 b.p)) (first | (with_reducible exact ⟨f0, f1, f2, g0, g2'⟩) | (simp only [World.cell?_drew]; with_reducible exact ⟨f0, f1, f2, g0, g2'⟩)) ((go_at_call 221; (with_reducible refine (HE.out _).mono ?_); rintro e w2 ⟨rfl, hbl⟩; have S2 := Ai.Aside.mk (R2.out.below hbl); have S3 := Ai.Aside.mk (R3.out.below hbl); have S4 := Ai.Aside.mk (R4.out.below hbl); have SB := Ai.Aside.mk (BB.out.trans (hbl.mono BB.out.size)); clear R2 R3 R4 BB hbl f0 f1 f2 g0 g1' g2'; have R2 := S2; have R3 := S3; have R4 := S4; have BB := SB; clear S2 S3 S4 SB; obtain ⟨f0, f1, f2, -, -, -⟩ := R2.out.facts; obtain ⟨g0, g1', g2', -, -, -⟩ := R3.out.facts))
      rename_i hh
      clear hh
      obtain ⟨q0, q1, q2, z0, z1, z2⟩ := R4.out.facts
      go_wp2_with fail
      refine bodyPost_ret (res_cell_tmp (p := 4) (q := 5) (ty := 94) rfl _ _ b4 [.int .i64 (⟨a.l, a.n + b.n, a.p⟩ : Op3).l, .int .i64 (⟨a.l, a.n + b.n, a.p⟩ : Op3).n, .int .i64 (⟨a.l, a.n + b.n, a.p⟩ : Op3).p] _ rfl (R4.out.put (⟨a.l, a.n + b.n, a.p⟩ : Op3)).range Tryz.underlying94 rfl (by kernel_rfl)) rfl ?_
      have hj : joins a b = true := by simp [joins, H1.out, H2.out]
      have hq : joined a b = ⟨a.l, a.n + b.n, a.p⟩ := by simp [joined, hj]
      unfold JoinPost
      rw [hj, hq]
      exact ⟨rfl, below_put3 BB.out HN.out.2.2 _ _ _⟩
    · have g2 : (a.p + a.n == b.p) = false := by simp [h2]
      have H2 := Ai.Aside.mk h2
      clear h2
      go_enter Tryz.func226, Tryz.ntmps226
      go_upto_region 1 with fail
      have R2 := Ai.Aside.mk (((Rx.new (w := w) w a (Nat.le_refl _)).alloc (.cells #[.int .i64 b.l, .int .i64 b.n, .int .i64 b.p] 94)).alloc (.cells #[.int .i64 0, .int .i64 0, .int .i64 0] 94))
      have R3 := Ai.Aside.mk ((rx_second w a b).alloc (.cells #[.int .i64 0, .int .i64 0, .int .i64 0] 94))
      have R4 := Ai.Aside.mk (rx_third w a b)
      have BB := Ai.Aside.mk ((((Below.refl w.heap.size w).alloc (Nat.le_refl _) (.cells #[.int .i64 a.l, .int .i64 a.n, .int .i64 a.p] 94)).alloc (by simp) (.cells #[.int .i64 b.l, .int .i64 b.n, .int .i64 b.p] 94)).alloc (by simp; omega) (.cells #[.int .i64 0, .int .i64 0, .int .i64 0] 94))
      generalize World.alloc _ _ = W1 at R2 R3 R4 BB ⊢
      obtain ⟨b2, hb2⟩ : ∃ b2, b2 = w.heap.size := ⟨_, rfl⟩
      obtain ⟨b3, hb3⟩ : ∃ b3, b3 = w.heap.size + 1 := ⟨_, rfl⟩
      obtain ⟨b4, hb4⟩ : ∃ b4, b4 = w.heap.size + 1 + 1 := ⟨_, rfl⟩
      rw [← hb4] at R4 ⊢
      rw [← hb3] at R3 ⊢
      rw [← hb2] at R2 ⊢
      have HN := Ai.Aside.mk (show b2 ≠ b4 ∧ b3 ≠ b4 ∧ w.heap.size ≤ b4 by omega)
      clear hb2 hb3 hb4
      obtain ⟨f0, f1, f2, -, -, -⟩ := R2.out.facts
      obtain ⟨g0, g1', g2', -, -, -⟩ := R3.out.facts
      replace R2 := Ai.Aside.mk (R2.out.below (Below.refl _ W1).drew)
      replace R3 := Ai.Aside.mk (R3.out.below (Below.refl _ W1).drew)
      replace R4 := Ai.Aside.mk (R4.out.below (Below.refl _ W1).drew)
      replace BB := Ai.Aside.mk (BB.out.trans ((Below.refl _ W1).drew.mono BB.out.size))
      go_region_held3 (fun W' => W'.cell? ⟨b2, 0, none⟩ = some (.int .i64 a.l) ∧ W'.cell? ⟨b2, 1, none⟩ = some (.int .i64 a.n) ∧ W'.cell? ⟨b2, 2, none⟩ = some (.int .i64 a.p) ∧ W'.cell? ⟨b3, 0, none⟩ = some (.int .i64 b.l) ∧ W'.cell? ⟨b3, 2, none⟩ = some (.int .i64 b.p)) (first | (with_reducible exact ⟨f0, f1, f2, g0, g2'⟩) | (simp only [World.cell?_drew]; with_reducible exact ⟨f0, f1, f2, g0, g2'⟩)) ((go_at_call 221; (with_reducible refine (HE.out _).mono ?_); rintro e w2 ⟨rfl, hbl⟩; have S2 := Ai.Aside.mk (R2.out.below hbl); have S3 := Ai.Aside.mk (R3.out.below hbl); have S4 := Ai.Aside.mk (R4.out.below hbl); have SB := Ai.Aside.mk (BB.out.trans (hbl.mono BB.out.size)); clear R2 R3 R4 BB hbl f0 f1 f2 g0 g1' g2'; have R2 := S2; have R3 := S3; have R4 := S4; have BB := SB; clear S2 S3 S4 SB; obtain ⟨f0, f1, f2, -, -, -⟩ := R2.out.facts; obtain ⟨g0, g1', g2', -, -, -⟩ := R3.out.facts))
      rename_i hh
      clear hh
      obtain ⟨q0, q1, q2, z0, z1, z2⟩ := R4.out.facts
      go_wp2_with fail
      refine bodyPost_ret (res_cell_tmp (p := 4) (q := 5) (ty := 94) rfl _ _ b4 [.int .i64 (⟨0, 0, 0⟩ : Op3).l, .int .i64 (⟨0, 0, 0⟩ : Op3).n, .int .i64 (⟨0, 0, 0⟩ : Op3).p] _ rfl (R4.out.put (⟨0, 0, 0⟩ : Op3)).range Tryz.underlying94 rfl (by kernel_rfl)) rfl ?_
      have hj : joins a b = false := by simp [joins, H2.out]
      have hq : joined a b = ⟨0, 0, 0⟩ := by simp [joined, hj]
      unfold JoinPost
      rw [hj, hq]
      exact ⟨rfl, below_put3 BB.out HN.out.2.2 _ _ _⟩
  · have g1 : (a.l + a.n == b.l) = false := by simp [h1]
    have H1 := Ai.Aside.mk h1
    clear h1
    go_enter Tryz.func226, Tryz.ntmps226
    go_upto_region 1 with fail
    have R2 := Ai.Aside.mk (((Rx.new (w := w) w a (Nat.le_refl _)).alloc (.cells #[.int .i64 b.l, .int .i64 b.n, .int .i64 b.p] 94)).alloc (.cells #[.int .i64 0, .int .i64 0, .int .i64 0] 94))
    have R3 := Ai.Aside.mk ((rx_second w a b).alloc (.cells #[.int .i64 0, .int .i64 0, .int .i64 0] 94))
    have R4 := Ai.Aside.mk (rx_third w a b)
    have BB := Ai.Aside.mk ((((Below.refl w.heap.size w).alloc (Nat.le_refl _) (.cells #[.int .i64 a.l, .int .i64 a.n, .int .i64 a.p] 94)).alloc (by simp) (.cells #[.int .i64 b.l, .int .i64 b.n, .int .i64 b.p] 94)).alloc (by simp; omega) (.cells #[.int .i64 0, .int .i64 0, .int .i64 0] 94))
    generalize World.alloc _ _ = W1 at R2 R3 R4 BB ⊢
    obtain ⟨b2, hb2⟩ : ∃ b2, b2 = w.heap.size := ⟨_, rfl⟩
    obtain ⟨b3, hb3⟩ : ∃ b3, b3 = w.heap.size + 1 := ⟨_, rfl⟩
    obtain ⟨b4, hb4⟩ : ∃ b4, b4 = w.heap.size + 1 + 1 := ⟨_, rfl⟩
    rw [← hb4] at R4 ⊢
    rw [← hb3] at R3 ⊢
    rw [← hb2] at R2 ⊢
    have HN := Ai.Aside.mk (show b2 ≠ b4 ∧ b3 ≠ b4 ∧ w.heap.size ≤ b4 by omega)
    clear hb2 hb3 hb4
    obtain ⟨f0, f1, f2, -, -, -⟩ := R2.out.facts
    obtain ⟨g0, g1', g2', -, -, -⟩ := R3.out.facts
    replace R2 := Ai.Aside.mk (R2.out.below (Below.refl _ W1).drew)
    replace R3 := Ai.Aside.mk (R3.out.below (Below.refl _ W1).drew)
    replace R4 := Ai.Aside.mk (R4.out.below (Below.refl _ W1).drew)
    replace BB := Ai.Aside.mk (BB.out.trans ((Below.refl _ W1).drew.mono BB.out.size))
    refine wp_region_held_drew (S := (fun W' => W'.cell? ⟨b2, 0, none⟩ = some (.int .i64 a.l) ∧ W'.cell? ⟨b2, 1, none⟩ = some (.int .i64 a.n) ∧ W'.cell? ⟨b2, 2, none⟩ = some (.int .i64 a.p) ∧ W'.cell? ⟨b3, 0, none⟩ = some (.int .i64 b.l) ∧ W'.cell? ⟨b3, 2, none⟩ = some (.int .i64 b.p))) (by kernel_rfl) (by simp only [World.cell?_drew]; exact ⟨f0, f1, f2, g0, g2'⟩) (fun hHeld => ?_)
    refine wpAnyH_take (i := 0) (v := ?v0) rfl (by kernel_rfl) (by kernel_rfl) (by kernel_rfl) (fun _ _ _ h => h) (Or.inl ⟨by rfl, ?hy0⟩) (by assumption) ?rest0
    case hy0 =>
      intro w hSw
      (try dsimp only at hSw)
      simp only [List.getElem_toArray, List.getElem_cons_zero, List.getElem_cons_succ]
      go_simp
      (try with_reducible rfl)
    (try simp only [List.getElem_toArray, List.getElem_cons_zero, List.getElem_cons_succ, Act.put, List.setIfInBounds_toArray, List.set_cons_zero, List.set_cons_succ])
    refine wpAnyH_take (i := 2) (v := ?v2) rfl (by kernel_rfl) (by kernel_rfl) (by kernel_rfl) (fun _ _ _ h => h) (Or.inl ⟨by rfl, ?hy2⟩) (by assumption) ?rest2
    case hy2 =>
      intro w hSw
      (try dsimp only at hSw)
      simp only [List.getElem_toArray, List.getElem_cons_zero, List.getElem_cons_succ]
      go_simp
      (try with_reducible rfl)
    (try simp only [List.getElem_toArray, List.getElem_cons_zero, List.getElem_cons_succ, Act.put, List.setIfInBounds_toArray, List.set_cons_zero, List.set_cons_succ])
    refine wpAnyH_take (i := 3) (v := ?v3) rfl (by kernel_rfl) (by kernel_rfl) (by kernel_rfl) (fun _ _ _ h => h) (Or.inl ⟨by rfl, ?hy3⟩) (by assumption) ?rest3
    case hy3 =>
      intro w hSw
      (try dsimp only at hSw)
      simp only [List.getElem_toArray, List.getElem_cons_zero, List.getElem_cons_succ]
      go_simp
      (try with_reducible rfl)
    (try simp only [List.getElem_toArray, List.getElem_cons_zero, List.getElem_cons_succ, Act.put, List.setIfInBounds_toArray, List.set_cons_zero, List.set_cons_succ])
    refine wpAnyH_ready (rs := [1]) (by kernel_rfl) (by simp) ?_
    refine AllReadyH.cons rfl (fun K hK => ?_) AllReadyH.nil
    rw [if_pos (by rfl)]
    go_simp
    (go_at_call 221; (with_reducible refine (HE.out _).mono ?_); rintro e w2 ⟨rfl, hbl⟩; have S2 := Ai.Aside.mk (R2.out.below hbl); have S3 := Ai.Aside.mk (R3.out.below hbl); have S4 := Ai.Aside.mk (R4.out.below hbl); have SB := Ai.Aside.mk (BB.out.trans (hbl.mono BB.out.size)); clear R2 R3 R4 BB hbl f0 f1 f2 g0 g1' g2'; have R2 := S2; have R3 := S3; have R4 := S4; have BB := SB; clear S2 S3 S4 SB; obtain ⟨f0, f1, f2, -, -, -⟩ := R2.out.facts; obtain ⟨g0, g1', g2', -, -, -⟩ := R3.out.facts)
    go_wp2_with fail
    refine hK.out _ _ ⟨f0, f1, f2, g0, g2'⟩ (fun hS2 => ?_)
    (try simp only [List.getElem_toArray, List.getElem_cons_zero, List.getElem_cons_succ, Act.put, List.setIfInBounds_toArray, List.set_cons_zero, List.set_cons_succ])
    refine wpAnyH_take (i := 4) (v := ?v4) rfl (by kernel_rfl) (by kernel_rfl) (by kernel_rfl) (fun _ _ _ h => h) (Or.inl ⟨by rfl, ?hy4⟩) (by assumption) ?rest4
    case hy4 =>
      intro w hSw
      (try dsimp only at hSw)
      simp only [List.getElem_toArray, List.getElem_cons_zero, List.getElem_cons_succ]
      go_simp
      (try with_reducible rfl)
    (try simp only [List.getElem_toArray, List.getElem_cons_zero, List.getElem_cons_succ, Act.put, List.setIfInBounds_toArray, List.set_cons_zero, List.set_cons_succ])
    refine wpAnyH_take (i := 5) (v := ?v5) rfl (by kernel_rfl) (by kernel_rfl) (by kernel_rfl) (fun _ _ _ h => h) (Or.inl ⟨by rfl, ?hy5⟩) (by assumption) ?rest5
    case hy5 =>
      intro w hSw
      (try dsimp only at hSw)
      simp only [List.getElem_toArray, List.getElem_cons_zero, List.getElem_cons_succ]
      go_simp
      (try with_reducible rfl)
    (try simp only [List.getElem_toArray, List.getElem_cons_zero, List.getElem_cons_succ, Act.put, List.setIfInBounds_toArray, List.set_cons_zero, List.set_cons_succ])
    refine wpAnyH_take (i := 6) (v := undef) rfl (by kernel_rfl) (by kernel_rfl) (by kernel_rfl) (fun _ _ _ h => h) (Or.inr ⟨by rfl, rfl⟩) (by assumption) ?_
    (try simp only [List.getElem_toArray, List.getElem_cons_zero, List.getElem_cons_succ, Act.put, List.setIfInBounds_toArray, List.set_cons_zero, List.set_cons_succ])
    refine wpAnyH_take (i := 7) (v := undef) rfl (by kernel_rfl) (by kernel_rfl) (by kernel_rfl) (fun _ _ _ h => h) (Or.inr ⟨by rfl, rfl⟩) (by assumption) ?_
    (try simp only [List.getElem_toArray, List.getElem_cons_zero, List.getElem_cons_succ, Act.put, List.setIfInBounds_toArray, List.set_cons_zero, List.set_cons_succ])
    refine wpAnyH_take (i := 8) (v := undef) rfl (by kernel_rfl) (by kernel_rfl) (by kernel_rfl) (fun _ _ _ h => h) (Or.inr ⟨by rfl, rfl⟩) (by assumption) ?_
    (try simp only [List.getElem_toArray, List.getElem_cons_zero, List.getElem_cons_succ, Act.put, List.setIfInBounds_toArray, List.set_cons_zero, List.set_cons_succ])
    refine wpAnyH_take (i := 9) (v := undef) rfl (by kernel_rfl) (by kernel_rfl) (by kernel_rfl) (fun _ _ _ h => h) (Or.inr ⟨by rfl, rfl⟩) (by assumption) ?_
    (try simp only [List.getElem_toArray, List.getElem_cons_zero, List.getElem_cons_succ, Act.put, List.setIfInBounds_toArray, List.set_cons_zero, List.set_cons_succ])
    refine wpAnyH_take (i := 10) (v := undef) rfl (by kernel_rfl) (by kernel_rfl) (by kernel_rfl) (fun _ _ _ h => h) (Or.inr ⟨by rfl, rfl⟩) (by assumption) ?_
    (try simp only [List.getElem_toArray, List.getElem_cons_zero, List.getElem_cons_succ, Act.put, List.setIfInBounds_toArray, List.set_cons_zero, List.set_cons_succ])
    refine wpAnyH_take (i := 11) (v := undef) rfl (by kernel_rfl) (by kernel_rfl) (by kernel_rfl) (fun _ _ _ h => h) (Or.inr ⟨by rfl, rfl⟩) (by assumption) ?_
    (try simp only [List.getElem_toArray, List.getElem_cons_zero, List.getElem_cons_succ, Act.put, List.setIfInBounds_toArray, List.set_cons_zero, List.set_cons_succ])
    refine wpAnyH_take (i := 12) (v := undef) rfl (by kernel_rfl) (by kernel_rfl) (by kernel_rfl) (fun _ _ _ h => h) (Or.inr ⟨by rfl, rfl⟩) (by assumption) ?_
    (try simp only [List.getElem_toArray, List.getElem_cons_zero, List.getElem_cons_succ, Act.put, List.setIfInBounds_toArray, List.set_cons_zero, List.set_cons_succ])
    refine wpAnyH_take (i := 13) (v := undef) rfl (by kernel_rfl) (by kernel_rfl) (by kernel_rfl) (fun _ _ _ h => h) (Or.inr ⟨by rfl, rfl⟩) (by assumption) ?_
    (try simp only [List.getElem_toArray, List.getElem_cons_zero, List.getElem_cons_succ, Act.put, List.setIfInBounds_toArray, List.set_cons_zero, List.set_cons_succ])
    refine wpAnyH_take (i := 14) (v := ?v14) rfl (by kernel_rfl) (by kernel_rfl) (by kernel_rfl) (fun _ _ _ h => h) (Or.inl ⟨by rfl, ?hy14⟩) (by assumption) ?rest14
    case hy14 =>
      intro w hSw
      (try dsimp only at hSw)
      simp only [List.getElem_toArray, List.getElem_cons_zero, List.getElem_cons_succ]
      go_simp
      (try with_reducible rfl)
    (try simp only [List.getElem_toArray, List.getElem_cons_zero, List.getElem_cons_succ, Act.put, List.setIfInBounds_toArray, List.set_cons_zero, List.set_cons_succ])
    refine wpAnyH_done (by kernel_rfl) ?_ _
    obtain ⟨q0, q1, q2, z0, z1, z2⟩ := R4.out.facts
    go_wp2_with fail
    refine bodyPost_ret (res_cell_tmp (p := 4) (q := 5) (ty := 94) rfl _ _ b4 [.int .i64 (⟨0, 0, 0⟩ : Op3).l, .int .i64 (⟨0, 0, 0⟩ : Op3).n, .int .i64 (⟨0, 0, 0⟩ : Op3).p] _ rfl (R4.out.put (⟨0, 0, 0⟩ : Op3)).range Tryz.underlying94 rfl (by kernel_rfl)) rfl ?_
    have hj : joins a b = false := by simp [joins, H1.out]
    have hq : joined a b = ⟨0, 0, 0⟩ := by simp [joined, hj]
    unfold JoinPost
    rw [hj, hq]
    exact ⟨rfl, below_put3 BB.out HN.out.2.2 _ _ _⟩
end Lo
end Go.Proofs.YtjmhkcfdmcjilaaGreat
set_option linter.unusedVariables false
set_option linter.unusedSimpArgs false
namespace Go.Proofs.YtjmhkcfdmcjilaaGreat
namespace Lo
open Go.RowKit Ai Fi

set_option maxHeartbeats 4000000 in
set_option maxRecDepth 100000 in
theorem mright_ok (w : World) (m t a g : Nat) (n : Int) (A : Ar) (T : Tr) (hM : RMap w m t a g n A T) (hn : 1 ≤ n ∧ n ≤ 512) (lba len : Int) :
    Calls Tryz.prog 215 #[.pointer (some ⟨m, 0, none⟩), .int .i64 lba, .int .i64 len] w fun e w' => e = .returned (.bool (rightR n lba len)) ∧ w' = w := by
  obtain ⟨hc0, -, -, -⟩ := hM.cells
  obtain ⟨r, hr⟩ : ∃ r, r = rightR n lba len := ⟨_, rfl⟩
  rw [← hr]
  have HR := Ai.Aside.mk hr
  clear hr hM
  by_cases h1 : 1 ≤ len
  · by_cases h2 : len ≤ n
    · have hw : IntKind.i64.wrap (n - len) = n - len := by rw [IntKind.wrap_i64]; omega
      by_cases h3 : 0 ≤ lba
      · go_enter Tryz.func215, Tryz.ntmps215
        go_wp2_with fail
        go_ret
        refine ⟨ret_bool ?_, rfl⟩
        rw [HR.out, rightR]
        apply decide_eq_decide.2
        omega
      · go_enter Tryz.func215, Tryz.ntmps215
        go_wp2_with fail
        go_ret
        refine ⟨ret_bool ?_, rfl⟩
        rw [HR.out, rightR]
        symm
        apply decide_eq_false
        omega
    · go_enter Tryz.func215, Tryz.ntmps215
      go_wp2_with fail
      go_ret
      refine ⟨ret_bool ?_, rfl⟩
      rw [HR.out, rightR]
      symm
      apply decide_eq_false
      omega
  · go_enter Tryz.func215, Tryz.ntmps215
    go_wp2_with fail
    go_ret
    refine ⟨ret_bool ?_, rfl⟩
    rw [HR.out, rightR]
    symm
    apply decide_eq_false
    omega

/-- A row of pointers to runs, some of which may be nil. -/
def Pts (w : World) (g : Nat) (ps : List (Option Op3)) : Prop := g < w.heap.size ∧ ∀ (i : Nat) (o : Option Op3), ps[i]? = some o →
  match o with
  | none => w.cell? ⟨g, i, none⟩ = some (.pointer none)
  | some x => ∃ c, w.cell? ⟨g, i, none⟩ = some (.pointer (some ⟨c, 0, none⟩)) ∧ w.heap[c]? = some (.cells #[.int .i64 x.l, .int .i64 x.n, .int .i64 x.p] 94 (0, 0))

theorem Pts.below {w w' : World} {g : Nat} {ps : List (Option Op3)} (h : Pts w g ps) (hb : Below w.heap.size w w') : Pts w' g ps := by
  refine ⟨Nat.lt_of_lt_of_le h.1 hb.size, fun i o hi => ?_⟩
  have h2 := h.2 i o hi
  have ec : ∀ j, w'.cell? ⟨g, j, none⟩ = w.cell? ⟨g, j, none⟩ := fun j => hb.cell h.1
  cases o with
  | none => rw [ec]; exact h2
  | some x =>
    obtain ⟨c, h3, h4⟩ := h2
    exact ⟨c, by rw [ec]; exact h3, by rw [hb.block c (Array.getElem?_eq_some_iff.1 h4).1]; exact h4⟩

/-- Runs behind one another, joined. -/
def layL : List Op3 → List (Option Op3) → List Op3
  | acc, [] => acc
  | acc, none :: r => layL acc r
  | acc, some x :: r => match acc.getLast? with
    | none => layL (acc ++ [x]) r
    | some y => if joins y x then layL (acc.dropLast ++ [joined y x]) r else layL (acc ++ [x]) r

theorem runV_set3 (ys : List Op3) (z y : Op3) : (((runV (ys ++ [z])).set (ys.length * 3) (.int .i64 y.l)).set (ys.length * 3 + 1) (.int .i64 y.n)).set (ys.length * 3 + 2) (.int .i64 y.p) = runV (ys ++ [y]) := by
  rw [runV_append, runV_append]
  have hl := runV_length ys
  rw [List.set_append, if_neg (by omega), List.set_append, if_neg (by omega), List.set_append, if_neg (by omega), hl, show ys.length * 3 - ys.length * 3 = 0 by omega, show ys.length * 3 + 1 - ys.length * 3 = 1 by omega, show ys.length * 3 + 2 - ys.length * 3 = 2 by omega]
  rfl

theorem getLast_split {α : Type} {xs : List α} {y : α} (h : xs.getLast? = some y) : xs = xs.dropLast ++ [y] := by
  obtain ⟨ys, rfl⟩ := List.getLast?_eq_some_iff.1 h
  simp

theorem own_slice {w : World} {base n : Nat} {e : TypeId} {size : Nat} {v : Value} {xs : List Value} (h : w.ownsRow base e size v n xs) : ∃ A cap, v = .slice A n cap := by
  rcases h.2 with ⟨rfl, h0⟩ | ⟨g, cap, cur, rfl, _⟩
  · exact ⟨none, 0, by rw [h0]⟩
  · exact ⟨_, cap, rfl⟩

theorem keepCell {w w1 : World} (hb : Below w.heap.size w w1) {b o : Nat} {v : Value} (h : w.cell? ⟨b, o, none⟩ = some v) : w1.cell? ⟨b, o, none⟩ = some v := (hb.cell (World.block_lt_of_cell? w _ h)).trans h

theorem put3_cell {w : World} {b o c : Nat} {v : Value} (h : w.cell? ⟨b, o, none⟩ = some v) (hne : c ≠ b) (x y z : Value) : (((w.setCell ⟨c, 0, none⟩ x).setCell ⟨c, 1, none⟩ y).setCell ⟨c, 2, none⟩ z).cell? ⟨b, o, none⟩ = some v := by
  rw [World.cell?_setCell_far _ _ _ _ hne, World.cell?_setCell_far _ _ _ _ hne, World.cell?_setCell_far _ _ _ _ hne]
  exact h

def LayPost (w : World) (xs : List Op3) (e : Ending) (w' : World) : Prop := ∃ v', e = .returned v' ∧ w'.ownsRow w.heap.size 94 3 v' xs.length (runV xs) ∧ Below w.heap.size w w'

theorem Fit.joined {a b : Op3} (ha : Fit a) (hb : Fit b) (hs : a.n + b.n ≤ 1073741824) : Fit (joined a b) := by
  unfold Fit Lo.joined at *
  split
  · simp only; omega
  · simp only; omega

set_option maxHeartbeats 8000000 in
set_option maxRecDepth 100000 in
theorem lay_ok (w : World) (g cap : Nat) (ps : List (Option Op3)) (hP : Pts w g ps) (hl : ps.length ≤ 3) (hf : ∀ x, some x ∈ ps → Fit x ∧ x.l ≤ 4096 ∧ x.n ≤ 4096) :
    Calls Tryz.prog 218 #[.slice (some ⟨g, 0, none⟩) ps.length cap] w (LayPost w (layL [] ps)) := by
  have HP := Ai.Aside.mk hP
  have HF := Ai.Aside.mk hf
  have HJ := Ai.Aside.mk join_ok
  obtain ⟨n, hn⟩ : ∃ n, n = ps.length := ⟨_, rfl⟩
  rw [← hn] at hl ⊢
  have HN := Ai.Aside.mk hn
  clear hP hf hn
  obtain ⟨i0, hi, hz0, hz1, hz2⟩ := info_parts info94
  go_enter Tryz.func218, Tryz.ntmps218
  go_wp2_with fail
  go_loopw [3, 11] (fun v3 v11 wr => ∃ (k : Nat) (acc : List Op3), k ≤ n ∧ v11 = .int .i64 k ∧ acc.length ≤ k ∧ Ai.Aside (layL [] ps = layL acc (ps.drop k) ∧ (∀ x ∈ acc, Fit x ∧ x.n ≤ 4096 * k) ∧ wr.ownsRow w.heap.size 94 3 v3 acc.length (runV acc) ∧ Below w.heap.size w wr)) (fun _ v11 _ => n - (intOf v11).toNat)
  case atStart => exact ⟨0, [], by omega, rfl, by simp, ⟨rfl, by simp, World.ownsRow_nil _ _ _ _, Below.refl _ _⟩⟩
  case round =>
    obtain ⟨k, acc, hk, rfl, hacc, HR⟩ := hrel
    by_cases hlt : k < n
    · obtain ⟨o, ho⟩ : ∃ o, ps[k]? = some o := ⟨_, List.getElem?_eq_getElem (by rw [← HN.out]; exact hlt)⟩
      have hdrop := drop_of ho
      have hcell := (HP.out.below HR.out.2.2.2).2 k o ho
      cases o with
      | none =>
        have HS := Ai.Aside.mk (show layL [] ps = layL acc (ps.drop (k + 1)) by rw [HR.out.1, hdrop]; rfl)
        clear hdrop ho
        go_wp2_with fail
        go_roundw
        case rel => exact ⟨k + 1, acc, by omega, by go_num, by omega, ⟨HS.out, fun x hx => ⟨(HR.out.2.1 x hx).1, by have := (HR.out.2.1 x hx).2; omega⟩, HR.out.2.2.1, HR.out.2.2.2⟩⟩
        case measure => simp [intOf]; omega
      | some x =>
        obtain ⟨c, hc1, hc2⟩ := hcell
        obtain ⟨xf, xl, xn⟩ := HF.out x (List.mem_of_getElem? ho)
        have XF := Ai.Aside.mk xf
        have d0 : wr.cell? ⟨c, 0, none⟩ = some (.int .i64 x.l) := by rw [cell_of_row _ _ _ _ _ _ hc2]; rfl
        have d1 : wr.cell? ⟨c, 1, none⟩ = some (.int .i64 x.n) := by rw [cell_of_row _ _ _ _ _ _ hc2]; rfl
        have d2 : wr.cell? ⟨c, 2, none⟩ = some (.int .i64 x.p) := by rw [cell_of_row _ _ _ _ _ _ hc2]; rfl
        have HC2 := Ai.Aside.mk hc2
        have HO := Ai.Aside.mk HR.out.2.2.1
        have HB := Ai.Aside.mk HR.out.2.2.2
        have HD := Ai.Aside.mk (And.intro HR.out.1 (And.intro HR.out.2.1 hdrop))
        obtain ⟨L, hL⟩ : ∃ L, L = acc.length := ⟨_, rfl⟩
        rw [← hL] at HO hacc
        have HL := Ai.Aside.mk hL
        clear hdrop ho HR xf hc2 hL
        cases L with
        | zero =>
          have HA0 := Ai.Aside.mk (List.length_eq_zero_iff.1 HL.out.symm)
          obtain ⟨A3, cap3, rfl⟩ := own_slice HO.out
          go_wp2_with (at_builtin; go_loud (refine wpList_append_own _ rfl (.tmp 39) (.tmp 43) 33 rfl w.heap.size 94 i0 (.agg #[(.int .i64 0), (.int .i64 0), (.int .i64 0)]) 3 24 Tryz.underlying33 hi hz0 hz1 hz2 rfl (by decide) (.slice A3 0 cap3) 0 (runV acc) rfl (HO.out.alloc _) ⟨wr.heap.size, 0, none⟩ 1 1 [.int .i64 x.l, .int .i64 x.n, .int .i64 x.p] rfl rfl three_new (by simp [Value.oneCell']) (by unfold maxLen; omega) (by omega) (by have := HB.out.size; simp; omega) ?_; intro v' w2 hown2 hgrow2 hnil2))
          have HB2 := Ai.Aside.mk (show Below w.heap.size w w2 from (HB.out.alloc HB.out.size _).grown hgrow2 (by have := HB.out.size; simp; omega) (fun j hj => (HO.out.lt j hj).1))
          have HO2 := Ai.Aside.mk (show w2.ownsRow w.heap.size 94 3 v' (acc ++ [x]).length (runV (acc ++ [x])) by
            rw [runV_append, List.length_append, ← HL.out]; exact hown2)
          clear hown2 hgrow2 hnil2
          go_wp2_with fail
          go_roundw
          case rel =>
            refine ⟨k + 1, acc ++ [x], by omega, by go_num, by rw [List.length_append, ← HL.out]; simp, ⟨?_, ?_, HO2.out, HB2.out⟩⟩
            · rw [HD.out.1, HD.out.2.2, HA0.out]; rfl
            · intro y hy
              rw [HA0.out] at hy
              simp at hy
              subst hy
              exact ⟨XF.out, by omega⟩
          case measure => simp [intOf]; omega
        | succ L =>
          obtain ⟨g3, cap3, rfl⟩ := own_some HO.out
          obtain ⟨z, hz⟩ : ∃ z, acc.getLast? = some z := by
            cases h : acc.getLast? with
            | none => rw [List.getLast?_eq_none_iff] at h; have := HL.out; rw [h] at this; simp at this
            | some z => exact ⟨z, rfl⟩
          have hsp := getLast_split hz
          obtain ⟨ys, hys⟩ : ∃ ys, ys = acc.dropLast := ⟨_, rfl⟩
          rw [← hys] at hsp
          have hyl : ys.length = L := by have := HL.out; rw [hsp] at this; simp at this; omega
          have hzf := HD.out.2.1 z (List.mem_of_getLast? hz)
          have HZF := Ai.Aside.mk hzf
          have HSP := Ai.Aside.mk (And.intro hsp (And.intro hyl (And.intro hz hys)))
          have hzn : z.n ≤ 4096 * k := hzf.2
          have hgw := (HO.out.lt g3 rfl).1
          have hget := runV_get acc L z (by rw [hsp, ← hyl]; simp)
          have e0 : wr.cell? ⟨g3, L * 3, none⟩ = some (.int .i64 z.l) := by rw [HO.out.cellAt (L * 3) (by omega)]; exact hget.1
          have e1 : wr.cell? ⟨g3, L * 3 + 1, none⟩ = some (.int .i64 z.n) := by rw [HO.out.cellAt (L * 3 + 1) (by omega)]; exact hget.2.1
          have e2 : wr.cell? ⟨g3, L * 3 + 2, none⟩ = some (.int .i64 z.p) := by rw [HO.out.cellAt (L * 3 + 2) (by omega)]; exact hget.2.2
          have HJW := Ai.Aside.mk (fun W => HJ.out W z x hzf.1 XF.out)
          obtain ⟨jd, hjd⟩ : ∃ jd, jd = joined z x := ⟨_, rfl⟩
          obtain ⟨q, hq⟩ : ∃ q, q = joins z x := ⟨_, rfl⟩
          unfold JoinPost at HJW
          rw [← hjd, ← hq] at HJW
          have HQ := Ai.Aside.mk (And.intro hjd hq)
          clear hsp hys hyl hzf hz hget hjd hq hzn
          have hs0 : (0 : Int) ≤ (L : Int) := by omega
          have hs1 : (L : Int) < (L : Int) + 1 := by omega
          have hs2 : (L : Int) ≤ 3 := by omega
          have hw2 : wrap64 (L : Int) = L := by unfold wrap64; omega
          have hw3 : IntKind.i64.wrap (L : Int) = L := by rw [IntKind.wrap_i64]; omega
          have hw1 : IntKind.i64.wrap ((L : Int) + 1 - 1) = L := by rw [Int.add_sub_cancel]; exact hw3
          go_upto_region 8 with fail
          have HOW := HO
          have HBW := Ai.Aside.mk HB.out.size
          replace HO := Ai.Aside.mk (own_below HO.out (Below.refl _ wr).drew)
          go_region_held3 (fun W' => W'.cell? ⟨g3, L * 3, none⟩ = some (.int .i64 z.l) ∧ W'.cell? ⟨g3, L * 3 + 1, none⟩ = some (.int .i64 z.n) ∧ W'.cell? ⟨g3, L * 3 + 2, none⟩ = some (.int .i64 z.p) ∧ W'.cell? ⟨c, 0, none⟩ = some (.int .i64 x.l) ∧ W'.cell? ⟨c, 1, none⟩ = some (.int .i64 x.n) ∧ W'.cell? ⟨c, 2, none⟩ = some (.int .i64 x.p)) (first | (with_reducible exact ⟨e0, e1, e2, d0, d1, d2⟩) | (simp only [World.cell?_drew]; with_reducible exact ⟨e0, e1, e2, d0, d1, d2⟩) | (go_keep; done)) (first | (go_at_call 226; (with_reducible refine (HJW.out wr.drew).mono ?_); rintro e w1 ⟨rfl, hb⟩; have hb0 := (Below.refl wr.heap.size wr).drew.trans hb; have e0' := keepCell hb0 e0; have e1' := keepCell hb0 e1; have e2' := keepCell hb0 e2; have d0' := keepCell hb0 d0; have d1' := keepCell hb0 d1; have d2' := keepCell hb0 d2; have HO1 := Ai.Aside.mk (own_below HO.out hb); have HB1 := Ai.Aside.mk (HB.out.trans (hb0.mono HB.out.size)); have ne1 : w1.heap.size ≠ g3 := Nat.ne_of_gt (World.block_lt_of_cell? _ _ e0'); have ne2 : w1.heap.size ≠ c := Nat.ne_of_gt (World.block_lt_of_cell? _ _ d0'); clear e0 e1 e2 d0 d1 d2; have e0 := e0'; have e1 := e1'; have e2 := e2'; have d0 := d0'; have d1 := d1'; have d2 := d2'; clear e0' e1' e2' d0' d1' d2'; clear hb hb0 HO HB; have HO := HO1; have HB := HB1; clear HO1 HB1) | (go_at_call 226; (with_reducible refine (HJW.out (wr.alloc (.cells #[.int .i64 0, .int .i64 0, .int .i64 0] 94)).drew).mono ?_); rintro e w1 ⟨rfl, hb⟩; have hb0 : Below wr.heap.size wr w1 := (((Below.refl wr.heap.size wr).alloc (Nat.le_refl _) (.cells #[.int .i64 0, .int .i64 0, .int .i64 0] 94)).drew).trans (hb.mono (by simp)); have RX := Ai.Aside.mk (((Rx.new0 wr).below (Below.refl _ _).drew).below hb); have e0' := keepCell hb0 e0; have e1' := keepCell hb0 e1; have e2' := keepCell hb0 e2; have d0' := keepCell hb0 d0; have d1' := keepCell hb0 d1; have d2' := keepCell hb0 d2; have HO1 := Ai.Aside.mk (own_below (own_below (HOW.out.alloc _) (Below.refl _ _).drew) hb); have HB1 := Ai.Aside.mk (HB.out.trans (hb0.mono HB.out.size)); have ne1 : wr.heap.size ≠ g3 := Nat.ne_of_gt (World.block_lt_of_cell? _ _ e0); have ne2 : wr.heap.size ≠ c := Nat.ne_of_gt (World.block_lt_of_cell? _ _ d0); clear e0 e1 e2 d0 d1 d2; have e0 := e0'; have e1 := e1'; have e2 := e2'; have d0 := d0'; have d1 := d1'; have d2 := d2'; clear e0' e1' e2' d0' d1' d2'; clear hb hb0 HO HB; have HO := HO1; have HB := HB1; clear HO1 HB1; obtain ⟨f0, f1, f2, z0, z1, z2⟩ := RX.out.facts))
          · rename_i hh
            clear hh
            have RX := Ai.Aside.mk (Rx.new (w := w) w1 jd HB.out.size)
            have hal := (Below.refl w1.heap.size w1).alloc (Nat.le_refl _) (.cells #[.int .i64 jd.l, .int .i64 jd.n, .int .i64 jd.p] 94)
            replace HO := Ai.Aside.mk (own_below HO.out hal)
            replace HB := Ai.Aside.mk (HB.out.trans (hal.mono HB.out.size))
            replace d0 := keepCell hal d0
            replace d1 := keepCell hal d1
            replace d2 := keepCell hal d2
            replace e0 := keepCell hal e0
            replace e1 := keepCell hal e1
            replace e2 := keepCell hal e2
            obtain ⟨b7, hb7⟩ : ∃ b, b = w1.heap.size := ⟨_, rfl⟩
            rw [← hb7] at RX ne1 ne2 ⊢
            clear hb7 hal
            generalize World.alloc w1 _ = w5 at RX HO HB d0 d1 d2 e0 e1 e2 ⊢
            have t0 := HO.out.frozenAt (L * 3)
            have t1 := HO.out.frozenAt (L * 3 + 1)
            have t2 := HO.out.frozenAt (L * 3 + 2)
            obtain ⟨f0, f1, f2, -, -, -⟩ := RX.out.facts
            cases q
            · clear t0 t1 t2 e0 e1 e2
              go_wp2_with (at_builtin; go_loud (refine wpList_append_own _ rfl (.tmp 39) (.tmp 43) 33 rfl w.heap.size 94 i0 (.agg #[(.int .i64 0), (.int .i64 0), (.int .i64 0)]) 3 24 Tryz.underlying33 hi hz0 hz1 hz2 rfl (by decide) (.slice (some ⟨g3, 0, none⟩) (L + 1) cap3) (L + 1) (runV acc) rfl (HO.out.alloc _) ⟨w5.heap.size, 0, none⟩ 1 1 [.int .i64 x.l, .int .i64 x.n, .int .i64 x.p] rfl rfl three_new (by simp [Value.oneCell']) (by unfold maxLen; omega) (by omega) (by have := HB.out.size; simp; omega) ?_; intro v' w2 hown2 hgrow2 hnil2))
              have HB2 := Ai.Aside.mk (show Below w.heap.size w w2 from (HB.out.alloc HB.out.size _).grown hgrow2 (by have := HB.out.size; simp; omega) (fun j hj => (HO.out.lt j hj).1))
              have HO2 := Ai.Aside.mk (show w2.ownsRow w.heap.size 94 3 v' (acc ++ [x]).length (runV (acc ++ [x])) by
                rw [runV_append, List.length_append, ← HL.out]; exact hown2)
              clear hown2 hgrow2 hnil2
              go_wp2_with fail
              go_roundw
              case rel =>
                refine ⟨k + 1, acc ++ [x], by omega, by go_num, by rw [List.length_append, ← HL.out]; simp; omega, ⟨?_, ?_, HO2.out, HB2.out⟩⟩
                · rw [HD.out.1, HD.out.2.2]
                  simp only [layL, HSP.out.2.2.1, ← HQ.out.2]
                  rfl
                · intro y hy
                  rcases List.mem_append.1 hy with hy | hy
                  · exact ⟨(HD.out.2.1 y hy).1, by have := (HD.out.2.1 y hy).2; omega⟩
                  · simp at hy; subst hy; exact ⟨XF.out, by omega⟩
              case measure => simp [intOf]; omega
            · go_wp2_with fail
              have HO2 := Ai.Aside.mk (((HO.out.stored (L * 3) (.int .i64 jd.l)).1.stored (L * 3 + 1) (.int .i64 jd.n)).1.stored (L * 3 + 2) (.int .i64 jd.p)).1
              have HB2 := Ai.Aside.mk (((HB.out.setCell (p := ⟨g3, L * 3, none⟩) hgw (.int .i64 jd.l)).setCell (p := ⟨g3, L * 3 + 1, none⟩) hgw (.int .i64 jd.n)).setCell (p := ⟨g3, L * 3 + 2, none⟩) hgw (.int .i64 jd.p))
              have hset : (((runV acc).set (L * 3) (.int .i64 jd.l)).set (L * 3 + 1) (.int .i64 jd.n)).set (L * 3 + 2) (.int .i64 jd.p) = runV (ys ++ [jd]) := by
                rw [HSP.out.1, ← HSP.out.2.1]; exact runV_set3 ys z jd
              have hyl : (ys ++ [jd]).length = L + 1 := by rw [List.length_append, HSP.out.2.1]; rfl
              go_roundw
              case rel =>
                refine ⟨k + 1, ys ++ [jd], by omega, by go_num, by rw [hyl]; omega, ⟨?_, ?_, ?_, HB2.out⟩⟩
                · rw [HD.out.1, HD.out.2.2]
                  simp only [layL, HSP.out.2.2.1, ← HQ.out.2, if_true, ← HSP.out.2.2.2, ← HQ.out.1]
                · have hj : jd.n = z.n + x.n ∧ Fit jd := by
                    have h1 := HQ.out.1
                    have h2 := HQ.out.2
                    have hz := HZF.out
                    have hx := XF.out
                    rw [joined, ← h2, if_pos rfl] at h1
                    rw [h1]
                    unfold Fit at hz hx ⊢
                    refine ⟨rfl, ?_⟩
                    simp only
                    omega
                  intro y hy
                  rcases List.mem_append.1 hy with hy | hy
                  · have h3 := HD.out.2.1 y (by rw [HSP.out.1]; exact List.mem_append_left _ hy)
                    exact ⟨h3.1, by have := h3.2; omega⟩
                  · simp at hy; subst hy; exact ⟨hj.2, by have := HZF.out.2; have := hj.1; omega⟩
                · rw [hyl, ← hset]; exact HO2.out
              case measure => simp [intOf]; omega
          · rename_i hh
            clear hh f0 f1 f2 z0 z1 z2
            have hb7w := HBW.out
            obtain ⟨b7, hb7⟩ : ∃ b, b = wr.heap.size := ⟨_, rfl⟩
            rw [← hb7] at RX ne1 ne2 hb7w ⊢
            replace RX := Ai.Aside.mk (RX.out.put jd)
            replace HO := Ai.Aside.mk (own_set (own_set (own_set HO.out (m := b7) (i := 0) (u := .int .i64 jd.l) (Ne.symm ne1)) (m := b7) (i := 1) (u := .int .i64 jd.n) (Ne.symm ne1)) (m := b7) (i := 2) (u := .int .i64 jd.p) (Ne.symm ne1))
            replace HB := Ai.Aside.mk (below_put3 (c := b7) HB.out hb7w (.int .i64 jd.l) (.int .i64 jd.n) (.int .i64 jd.p))
            replace d0 := put3_cell d0 ne2 (.int .i64 jd.l) (.int .i64 jd.n) (.int .i64 jd.p)
            replace d1 := put3_cell d1 ne2 (.int .i64 jd.l) (.int .i64 jd.n) (.int .i64 jd.p)
            replace d2 := put3_cell d2 ne2 (.int .i64 jd.l) (.int .i64 jd.n) (.int .i64 jd.p)
            replace e0 := put3_cell e0 ne1 (.int .i64 jd.l) (.int .i64 jd.n) (.int .i64 jd.p)
            replace e1 := put3_cell e1 ne1 (.int .i64 jd.l) (.int .i64 jd.n) (.int .i64 jd.p)
            replace e2 := put3_cell e2 ne1 (.int .i64 jd.l) (.int .i64 jd.n) (.int .i64 jd.p)
            clear hb7 hb7w
            generalize World.setCell _ _ _ = w5 at RX HO HB d0 d1 d2 e0 e1 e2 ⊢
            have t0 := HO.out.frozenAt (L * 3)
            have t1 := HO.out.frozenAt (L * 3 + 1)
            have t2 := HO.out.frozenAt (L * 3 + 2)
            obtain ⟨f0, f1, f2, -, -, -⟩ := RX.out.facts
            cases q
            · clear t0 t1 t2 e0 e1 e2
              go_wp2_with (at_builtin; go_loud (refine wpList_append_own _ rfl (.tmp 39) (.tmp 43) 33 rfl w.heap.size 94 i0 (.agg #[(.int .i64 0), (.int .i64 0), (.int .i64 0)]) 3 24 Tryz.underlying33 hi hz0 hz1 hz2 rfl (by decide) (.slice (some ⟨g3, 0, none⟩) (L + 1) cap3) (L + 1) (runV acc) rfl (HO.out.alloc _) ⟨w5.heap.size, 0, none⟩ 1 1 [.int .i64 x.l, .int .i64 x.n, .int .i64 x.p] rfl rfl three_new (by simp [Value.oneCell']) (by unfold maxLen; omega) (by omega) (by have := HB.out.size; simp; omega) ?_; intro v' w2 hown2 hgrow2 hnil2))
              have HB2 := Ai.Aside.mk (show Below w.heap.size w w2 from (HB.out.alloc HB.out.size _).grown hgrow2 (by have := HB.out.size; simp; omega) (fun j hj => (HO.out.lt j hj).1))
              have HO2 := Ai.Aside.mk (show w2.ownsRow w.heap.size 94 3 v' (acc ++ [x]).length (runV (acc ++ [x])) by
                rw [runV_append, List.length_append, ← HL.out]; exact hown2)
              clear hown2 hgrow2 hnil2
              go_wp2_with fail
              go_roundw
              case rel =>
                refine ⟨k + 1, acc ++ [x], by omega, by go_num, by rw [List.length_append, ← HL.out]; simp; omega, ⟨?_, ?_, HO2.out, HB2.out⟩⟩
                · rw [HD.out.1, HD.out.2.2]
                  simp only [layL, HSP.out.2.2.1, ← HQ.out.2]
                  rfl
                · intro y hy
                  rcases List.mem_append.1 hy with hy | hy
                  · exact ⟨(HD.out.2.1 y hy).1, by have := (HD.out.2.1 y hy).2; omega⟩
                  · simp at hy; subst hy; exact ⟨XF.out, by omega⟩
              case measure => simp [intOf]; omega
            · go_wp2_with fail
              have HO2 := Ai.Aside.mk (((HO.out.stored (L * 3) (.int .i64 jd.l)).1.stored (L * 3 + 1) (.int .i64 jd.n)).1.stored (L * 3 + 2) (.int .i64 jd.p)).1
              have HB2 := Ai.Aside.mk (((HB.out.setCell (p := ⟨g3, L * 3, none⟩) hgw (.int .i64 jd.l)).setCell (p := ⟨g3, L * 3 + 1, none⟩) hgw (.int .i64 jd.n)).setCell (p := ⟨g3, L * 3 + 2, none⟩) hgw (.int .i64 jd.p))
              have hset : (((runV acc).set (L * 3) (.int .i64 jd.l)).set (L * 3 + 1) (.int .i64 jd.n)).set (L * 3 + 2) (.int .i64 jd.p) = runV (ys ++ [jd]) := by
                rw [HSP.out.1, ← HSP.out.2.1]; exact runV_set3 ys z jd
              have hyl : (ys ++ [jd]).length = L + 1 := by rw [List.length_append, HSP.out.2.1]; rfl
              go_roundw
              case rel =>
                refine ⟨k + 1, ys ++ [jd], by omega, by go_num, by rw [hyl]; omega, ⟨?_, ?_, ?_, HB2.out⟩⟩
                · rw [HD.out.1, HD.out.2.2]
                  simp only [layL, HSP.out.2.2.1, ← HQ.out.2, if_true, ← HSP.out.2.2.2, ← HQ.out.1]
                · have hj : jd.n = z.n + x.n ∧ Fit jd := by
                    have h1 := HQ.out.1
                    have h2 := HQ.out.2
                    have hz := HZF.out
                    have hx := XF.out
                    rw [joined, ← h2, if_pos rfl] at h1
                    rw [h1]
                    unfold Fit at hz hx ⊢
                    refine ⟨rfl, ?_⟩
                    simp only
                    omega
                  intro y hy
                  rcases List.mem_append.1 hy with hy | hy
                  · have h3 := HD.out.2.1 y (by rw [HSP.out.1]; exact List.mem_append_left _ hy)
                    exact ⟨h3.1, by have := h3.2; omega⟩
                  · simp at hy; subst hy; exact ⟨hj.2, by have := HZF.out.2; have := hj.1; omega⟩
                · rw [hyl, ← hset]; exact HO2.out
              case measure => simp [intOf]; omega
    · have hkn : k = n := by omega
      subst hkn
      have hd : ps.drop k = [] := by rw [HN.out]; simp
      go_wp2_with fail
      go_ret
      have h1 := HR.out.1
      rw [hd] at h1
      exact ⟨_, rfl, by rw [h1]; exact HR.out.2.2.1, HR.out.2.2.2⟩
end Lo
end Go.Proofs.YtjmhkcfdmcjilaaGreat
