/-
  Walk of the map of runs: cut.
-/
import Derived.Test.YtjmhkcfdmcjilaaGreatLoU
/- Walk of the map of runs: cut. -/
/- Walk of the map of runs: change. -/
set_option linter.unusedVariables false
set_option linter.unusedSimpArgs false
namespace Go.Proofs.YtjmhkcfdmcjilaaGreat
namespace Lo
open Go.RowKit Ai Fi

theorem split_unique {α : Type} (p : α → Bool) {a b c d : List α} (h : a ++ b = c ++ d) (ha : ∀ x ∈ a, p x = true) (hb : ∀ x ∈ b, p x = false) (hc : ∀ x ∈ c, p x = true) (hd : ∀ x ∈ d, p x = false) : a = c ∧ b = d := by
  have f : ∀ (u v : List α), (∀ x ∈ u, p x = true) → (∀ x ∈ v, p x = false) → (u ++ v).filter p = u := fun u v hu hv => by
    rw [List.filter_append, List.filter_eq_self.2 hu, List.filter_eq_nil_iff.2 (fun x hx => by simp [hv x hx]), List.append_nil]
  have e : a = c := by
    have h1 := f a b ha hb
    have h2 := f c d hc hd
    rw [h] at h1
    exact h1.symm.trans h2
  subst e
  exact ⟨rfl, List.append_cancel_left h⟩

theorem ins_pos {ys zs : List Id3} {i : Nat} {x : Op3} {U V : List Op3} (h : (ys ++ zs).map op3 = U ++ V) (hs : Sorted (ys ++ ⟨i, x.l, x.n, x.p⟩ :: zs)) (hU : ∀ u ∈ U, u.l < x.l) (hV : ∀ v ∈ V, x.l < v.l) :
    (ys ++ (⟨i, x.l, x.n, x.p⟩ : Id3) :: zs).map op3 = U ++ x :: V := by
  have h1 := List.pairwise_append.1 hs
  rw [List.map_append] at h
  obtain ⟨e1, e2⟩ := split_unique (fun y : Op3 => decide (y.l < x.l)) h
    (fun y hy => by
      obtain ⟨q, hq, rfl⟩ := List.mem_map.1 hy
      exact decide_eq_true (h1.2.2 q hq _ (List.mem_cons_self ..)))
    (fun y hy => by
      obtain ⟨q, hq, rfl⟩ := List.mem_map.1 hy
      have : x.l < q.b := (List.pairwise_cons.1 h1.2.1).1 q hq
      exact decide_eq_false (by show ¬ q.b < x.l; omega))
    (fun y hy => decide_eq_true (hU y hy)) (fun y hy => by have := hV y hy; exact decide_eq_false (by omega))
  rw [List.map_append, List.map_cons, e1, e2]
  rfl

theorem del_pos {ys zs P R : List Id3} {x : Id3} (h : ys ++ x :: zs = P ++ x :: R) (hs : Sorted (ys ++ x :: zs)) : ys = P ∧ zs = R := by
  have h1 := List.pairwise_append.1 hs
  have hs2 := hs
  rw [h] at hs2
  have h2 := List.pairwise_append.1 hs2
  obtain ⟨e1, e2⟩ := split_unique (fun y : Id3 => decide (y.b < x.b)) h
    (fun y hy => decide_eq_true (h1.2.2 y hy _ (List.mem_cons_self ..)))
    (fun y hy => by
      rcases List.mem_cons.1 hy with rfl | hy
      · exact decide_eq_false (by omega)
      · have := (List.pairwise_cons.1 h1.2.1).1 y hy
        exact decide_eq_false (by omega))
    (fun y hy => decide_eq_true (h2.2.2 y hy _ (List.mem_cons_self ..)))
    (fun y hy => by
      rcases List.mem_cons.1 hy with rfl | hy
      · exact decide_eq_false (by omega)
      · have := (List.pairwise_cons.1 h2.2.1).1 y hy
        exact decide_eq_false (by omega))
  exact ⟨e1, (List.cons.inj e2).2⟩

theorem own_modB {w w' : World} {base n size : Nat} {e : TypeId} {v : Value} {xs : List Value} {S : Nat → Prop} (h : w.ownsRow base e size v n xs) (hm : ModB S w w') (hS : ∀ k, S k → k < base) : w'.ownsRow base e size v n xs := by
  rcases h with ⟨h1, h2 | ⟨g, cap, cur, h3, h4, h5, h6⟩⟩
  · exact ⟨h1, .inl h2⟩
  · exact ⟨h1, .inr ⟨g, cap, cur, h3, h4, (hm.block g (Array.getElem?_eq_some_iff.1 h5).1 (fun k => by have := hS g k; omega)).trans h5, h6⟩⟩

theorem take_succ_of {α : Type} {xs : List α} {k : Nat} {x : α} (h : xs[k]? = some x) : xs.take (k + 1) = xs.take k ++ [x] := by
  obtain ⟨hl, rfl⟩ := List.getElem?_eq_some_iff.1 h
  simp

/-- A row of runs, one of which is read. -/
theorem own_read {w : World} {base : Nat} {A : Option Addr} {cap n : Nat} {xs : List Op3} (h : w.ownsRow base 94 3 (.slice A n cap) n (runV xs)) {k : Nat} {x : Op3} (hx : xs[k]? = some x) (hk : k < n) :
    ∃ g, A = some ⟨g, 0, none⟩ ∧ base ≤ g ∧ w.cell? ⟨g, k * 3, none⟩ = some (.int .i64 x.l) ∧ w.cell? ⟨g, k * 3 + 1, none⟩ = some (.int .i64 x.n) ∧ w.cell? ⟨g, k * 3 + 2, none⟩ = some (.int .i64 x.p) := by
  obtain ⟨g, hg⟩ : ∃ g, A = some ⟨g, 0, none⟩ := by
    rcases h.2 with ⟨h1, h2⟩ | ⟨g, cap', cur, h1, _⟩
    · omega
    · simp only [Value.slice.injEq] at h1
      exact ⟨g, h1.1⟩
  subst hg
  have hl : (runV xs).length = n * 3 := h.1
  obtain ⟨q0, q1, q2⟩ := runV_get xs k x hx
  exact ⟨g, rfl, (h.lt g rfl).1, by rw [h.cellAt (k * 3) (by omega)]; exact q0, by rw [h.cellAt (k * 3 + 1) (by omega)]; exact q1, by rw [h.cellAt (k * 3 + 2) (by omega)]; exact q2⟩

def ChangePost (w : World) (m t a g : Nat) (n : Int) (ys : List Op3) (e : Ending) (w' : World) : Prop :=
  e = .returned (.int .i64 0) ∧ ModB (TS t a g) w w' ∧ ∃ A' T', RMap w' m t a g n A' T' ∧ T'.xs.map op3 = ys

theorem RMap.step {w w' : World} {m t a g : Nat} {n : Int} {A A' : Ar} {T T' : Tr} (h : RMap w m t a g n A T) (hm : ModB (TS t a g) w w') (ht : TrAt w' t a g 513 A' T') : RMap w' m t a g n A' T' :=
  ⟨by rw [hm.block m h.ltm h.nm]; exact h.obj, ht, h.nm⟩

set_option maxHeartbeats 8000000 in
set_option maxRecDepth 100000 in
theorem mchange_ok (w : World) (m t a g : Nat) (n : Int) (A : Ar) (T : Tr) (hM : RMap w m t a g n A T) (base : Nat) (hb : t < base ∧ a < base ∧ g < base) (hbw : base ≤ w.heap.size)
    (P O Q : List Id3) (hT : T.xs = P ++ O ++ Q) (fs : List Op3) (hlen : P.length + fs.length + Q.length ≤ 512)
    (hsort : (P.map op3 ++ fs ++ Q.map op3).Pairwise fun x y => x.l < y.l)
    (A1 : Option Addr) (c1 : Nat) (hO : w.ownsRow base 94 3 (.slice A1 O.length c1) O.length (runV (O.map op3))) (A2 : Option Addr) (c2 : Nat) (hF : w.ownsRow base 94 3 (.slice A2 fs.length c2) fs.length (runV fs)) :
    Calls Tryz.prog 217 #[.pointer (some ⟨m, 0, none⟩), .slice A1 O.length c1, .slice A2 fs.length c2] w (ChangePost w m t a g n (P.map op3 ++ fs ++ Q.map op3)) := by
  have RM := Ai.Aside.mk hM
  obtain ⟨c0, c1', c2', c3⟩ := hM.cells
  have HTL := Ai.Aside.mk (fun (q : Nat) => tlen_ok (w.drewN q) t a g 513 A T.root T.xs.length (hM.tr.tr.below (below_drewN (Below.refl _ _) q)))
  obtain ⟨ln, hln⟩ : ∃ ln : Int, ln = (T.xs.length : Int) := ⟨_, rfl⟩
  rw [← hln] at HTL
  obtain ⟨no, hno⟩ : ∃ no, no = O.length := ⟨_, rfl⟩
  obtain ⟨nf, hnf⟩ : ∃ nf, nf = fs.length := ⟨_, rfl⟩
  have hl1 : ln = P.length + no + Q.length := by rw [hln, hT, hno]; simp; omega
  have hTl := hM.tr.good.len
  have hb1 : 0 ≤ ln ∧ ln ≤ 512 := by omega
  have hb2 : (no : Int) ≤ ln := by omega
  have hb3 : ln - no + nf ≤ 512 := by omega
  have hb4 : (nf : Int) ≤ 512 := by omega
  have hw1 : IntKind.i64.wrap (ln - no) = ln - no := by rw [IntKind.wrap_i64]; omega
  have hw2 : IntKind.i64.wrap (ln - no + nf) = ln - no + nf := by rw [IntKind.wrap_i64]; omega
  have hd : decide (512 < ln - no + nf) = false := decide_eq_false (by omega)
  rw [← hno] at hO ⊢
  rw [← hnf] at hF ⊢
  have HO := Ai.Aside.mk hO
  have HF := Ai.Aside.mk hF
  have HBS := Ai.Aside.mk (And.intro hb hbw)
  have HNO := Ai.Aside.mk hno
  have HNF := Ai.Aside.mk hnf
  have HTX := Ai.Aside.mk hT
  have HSO := Ai.Aside.mk hsort
  have HLE := Ai.Aside.mk hlen
  clear hM hO hF hb hbw hT hsort hlen hno hnf hln hTl hl1
  go_enter Tryz.func217, Tryz.ntmps217
  go_upto_region 1 with fail
  go_quiet ((go_at_call 219; refine Calls.quiet_of_same (HTL.out _)))
  have hbd := below_drewN (Below.refl w.heap.size w) nq
  replace RM := Ai.Aside.mk (RM.out.below hbd)
  replace HO := Ai.Aside.mk (own_below HO.out hbd)
  replace HF := Ai.Aside.mk (own_below HF.out hbd)
  have MD := Ai.Aside.mk (ModB.of_below hbd (TS t a g))
  have HBD := Ai.Aside.mk (show base ≤ (w.drewN nq).heap.size from HBS.out.2)
  clear c0 c1' c2' c3 hbd HTL
  generalize w.drewN nq = wd at RM HO HF MD HBD ⊢
  go_wp2_with fail
  go_loopw [30] (fun v30 wr => ∃ (k : Nat), k ≤ no ∧ v30 = .int .i64 k ∧ Ai.Aside (∃ A' T', RMap wr m t a g n A' T' ∧ T'.xs = P ++ O.drop k ++ Q ∧ ModB (TS t a g) wd wr)) (fun v30 _ => no - (intOf v30).toNat)
  case atStart => exact ⟨0, by omega, rfl, ⟨A, T, RM.out, by rw [HTX.out]; rfl, ModB.refl _ _⟩⟩
  case round =>
    obtain ⟨k, hk, rfl, HR⟩ := hrel
    clear RM
    obtain ⟨A', T', rm, htx, hmd⟩ := HR.out
    have RM := Ai.Aside.mk rm
    have HTX1 := Ai.Aside.mk htx
    have MD1 := Ai.Aside.mk hmd
    clear HR rm htx hmd
    have hTS : ∀ k, TS t a g k → k < base := fun k hk => by have := HBS.out.1; unfold TS at hk; omega
    have HO1 := Ai.Aside.mk (own_modB HO.out MD1.out hTS)
    have HF1 := Ai.Aside.mk (own_modB HF.out MD1.out hTS)
    have HBW := Ai.Aside.mk (show base ≤ wr.heap.size from Nat.le_trans HBD.out MD1.out.size)
    clear hTS
    by_cases hlt : k < no
    · obtain ⟨x, hx⟩ : ∃ x, O[k]? = some x := ⟨_, List.getElem?_eq_getElem (by rw [← HNO.out]; exact hlt)⟩
      have hxm : (O.map op3)[k]? = some (op3 x) := by rw [List.getElem?_map, hx]; rfl
      obtain ⟨b1, rfl, hb1', r0, r1, r2⟩ := own_read HO1.out hxm hlt
      have HDR := Ai.Aside.mk (drop_of hx)
      obtain ⟨c0, -, -, c3⟩ := RM.out.cells
      have hlm := RM.out.ltm
      have hnm := RM.out.nm
      have htl := RM.out.tr.tr.ltt
      obtain ⟨y, hy⟩ : ∃ y : Op3, y = op3 x := ⟨_, rfl⟩
      rw [← hy] at r0 r1 r2
      have HY := Ai.Aside.mk hy
      clear hxm hx hy
      go_upto_region 6 with fail
      have RX := Ai.Aside.mk (Rx.new (w := wr) wr y (Nat.le_refl _))
      have hal := (Below.refl wr.heap.size wr).alloc (Nat.le_refl _) (.cells #[.int .i64 y.l, .int .i64 y.n, .int .i64 y.p] 94)
      have RM2 := Ai.Aside.mk ((RM.out.below hal).below (Below.refl _ _).drew)
      have MD2 := Ai.Aside.mk ((MD1.out.below1 hal).below1 (Below.refl _ _).drew)
      have HDEL := Ai.Aside.mk (tdelete_ok _ t a g 513 A' T' RM2.out.tr x (by rw [HTX1.out, HDR.out]; simp))
      have hyb : x.b = y.l := by rw [HY.out]; rfl
      rw [hyb] at HDEL
      obtain ⟨b8, hb8⟩ : ∃ b, b = wr.heap.size := ⟨_, rfl⟩
      have hnb : ¬ TS t a g b8 := by
        have := HBS.out.1; have := HBW.out; unfold TS; omega
      have hmb : m ≠ b8 := by omega
      rw [← hb8] at RX ⊢
      replace c3 : (wr.alloc (.cells #[.int .i64 y.l, .int .i64 y.n, .int .i64 y.p] 94)).cell? ⟨m, 3, none⟩ = some (.pointer (some ⟨t, 0, none⟩)) := keepCell hal c3
      clear hb8 hyb r0 r1 r2 c0 hlm htl hal
      generalize World.alloc wr _ = w1 at RX RM2 MD2 HDEL c3 ⊢
      obtain ⟨f0, f1, f2, -, -, -⟩ := RX.out.facts
      go_region_held3 (fun W' => W'.cell? ⟨m, 3, none⟩ = some (.pointer (some ⟨t, 0, none⟩)) ∧ W'.cell? ⟨b8, 0, none⟩ = some (.int .i64 y.l)) (first | (with_reducible exact ⟨c3, f0⟩) | (simp only [World.cell?_drew]; with_reducible exact ⟨c3, f0⟩)) ((go_at_call 224; (with_reducible refine HDEL.out.mono ?_); rintro e w2 ⟨rfl, hmd, A2, T2, ys, zs, htr, e1, e2⟩; have hmd1 := (ModB.of_below (Below.refl _ w1).drew (TS t a g)).trans hmd; have RM3 := Ai.Aside.mk (RM2.out.step hmd htr); have MD3 := Ai.Aside.mk (MD2.out.trans hmd); have HE := Ai.Aside.mk (And.intro e1 e2); replace c3 := hmd1.cell c3 hnm; replace f0 := hmd1.cell f0 hnb; clear hmd hmd1 htr e1 e2))
      rename_i hh
      clear hh f1 f2
      have HT2 := Ai.Aside.mk (show T2.xs = P ++ O.drop (k + 1) ++ Q by
        have h1 : ys ++ x :: zs = P ++ x :: (O.drop (k + 1) ++ Q) := by rw [← HE.out.1, HTX1.out, HDR.out]; simp
        have h2 := del_pos h1 (by rw [← HE.out.1]; exact RM2.out.tr.good.sorted)
        rw [HE.out.2, h2.1, h2.2]; simp)
      go_wp2_with fail
      go_roundw
      case rel => exact ⟨k + 1, by omega, by go_num, ⟨A2, T2, RM3.out, HT2.out, MD3.out⟩⟩
      case measure => simp [intOf]; omega
    · have hkn : k = no := by omega
      have hd0 : O.drop k = [] := by rw [hkn, HNO.out]; simp
      have HTX2 := Ai.Aside.mk (show T'.xs = P ++ Q by rw [HTX1.out, hd0]; simp)
      clear hd0 HTX1
      subst hkn
      go_wp2_with fail
      go_loopw [44] (fun v44 ws => ∃ (k2 : Nat), k2 ≤ nf ∧ v44 = .int .i64 k2 ∧ Ai.Aside (∃ A' T', RMap ws m t a g n A' T' ∧ T'.xs.map op3 = P.map op3 ++ fs.take k2 ++ Q.map op3 ∧ ModB (TS t a g) wd ws)) (fun v44 _ => nf - (intOf v44).toNat)
      case atStart => exact ⟨0, by omega, rfl, ⟨A', T', RM.out, by rw [HTX2.out]; simp, MD1.out⟩⟩
      case round =>
        obtain ⟨k2, hk2, rfl, HR⟩ := hrel
        clear RM MD1 HTX2 HF1 HBW
        obtain ⟨A', T', rm, htx, hmd⟩ := HR.out
        have RM := Ai.Aside.mk rm
        have HTX1 := Ai.Aside.mk htx
        have MD1 := Ai.Aside.mk hmd
        clear HR rm htx hmd
        have hTS : ∀ k, TS t a g k → k < base := fun k hk => by have := HBS.out.1; unfold TS at hk; omega
        have HF1 := Ai.Aside.mk (own_modB HF.out MD1.out hTS)
        have HBW := Ai.Aside.mk (show base ≤ wr.heap.size from Nat.le_trans HBD.out MD1.out.size)
        clear hTS
        by_cases hlt2 : k2 < nf
        · obtain ⟨y, hy⟩ : ∃ y, fs[k2]? = some y := ⟨_, List.getElem?_eq_getElem (by rw [← HNF.out]; exact hlt2)⟩
          obtain ⟨b1, rfl, hb1', r0, r1, r2⟩ := own_read HF1.out hy hlt2
          have hta := take_succ_of hy
          have hdr := drop_of hy
          have hfs : fs = fs.take k2 ++ y :: fs.drop (k2 + 1) := by rw [← hdr, List.take_append_drop]
          have hso := HSO.out
          rw [hfs] at hso
          have hso2 : ((P.map op3 ++ fs.take k2) ++ y :: (fs.drop (k2 + 1) ++ Q.map op3)).Pairwise fun x y => x.l < y.l := by simpa using hso
          have hq1 := List.pairwise_append.1 hso2
          have hU : ∀ u ∈ P.map op3 ++ fs.take k2, u.l < y.l := fun u hu => hq1.2.2 u hu y (List.mem_cons_self ..)
          have hV : ∀ v ∈ Q.map op3, y.l < v.l := fun v hv => (List.pairwise_cons.1 hq1.2.1).1 v (List.mem_append_right _ hv)
          have HUV := Ai.Aside.mk (And.intro hU (And.intro hV hta))
          have hlen1 : T'.xs.length ≤ 511 := by
            have h1 := congrArg List.length HTX1.out
            simp only [List.length_map, List.length_append, List.length_take] at h1
            have h2 := HLE.out
            have h3 := HNF.out
            omega
          have hne1 : ∀ q ∈ T'.xs, q.b ≠ y.l := fun q hq => by
            have h1 : op3 q ∈ T'.xs.map op3 := List.mem_map_of_mem hq
            rw [HTX1.out] at h1
            rcases List.mem_append.1 h1 with h1 | h1
            · have h2 := hU _ h1
              have h3 : (op3 q).l = q.b := rfl
              omega
            · have h2 := hV _ h1
              have h3 : (op3 q).l = q.b := rfl
              omega
          obtain ⟨c0, -, -, c3⟩ := RM.out.cells
          have hlm := RM.out.ltm
          have hnm := RM.out.nm
          clear hy hta hdr hfs hso hso2 hq1 hU hV
          go_upto_region 11 with fail
          have RX := Ai.Aside.mk (Rx.new (w := wr) wr y (Nat.le_refl _))
          have hal := (Below.refl wr.heap.size wr).alloc (Nat.le_refl _) (.cells #[.int .i64 y.l, .int .i64 y.n, .int .i64 y.p] 94)
          have RM2 := Ai.Aside.mk ((RM.out.below hal).below (Below.refl _ _).drew)
          have MD2 := Ai.Aside.mk ((MD1.out.below1 hal).below1 (Below.refl _ _).drew)
          have HINS := Ai.Aside.mk (tinsert_ok _ t a g 513 A' T' RM2.out.tr hlen1 y hne1)
          obtain ⟨b8, hb8⟩ : ∃ b, b = wr.heap.size := ⟨_, rfl⟩
          have hnb : ¬ TS t a g b8 := by
            have := HBS.out.1; have := HBW.out; unfold TS; omega
          rw [← hb8] at RX ⊢
          replace c3 : (wr.alloc (.cells #[.int .i64 y.l, .int .i64 y.n, .int .i64 y.p] 94)).cell? ⟨m, 3, none⟩ = some (.pointer (some ⟨t, 0, none⟩)) := keepCell hal c3
          clear hb8 r0 r1 r2 c0 hlm hal hlen1 hne1
          generalize World.alloc wr _ = w1 at RX RM2 MD2 HINS c3 ⊢
          obtain ⟨f0, f1, f2, -, -, -⟩ := RX.out.facts
          go_region_held3 (fun W' => W'.cell? ⟨m, 3, none⟩ = some (.pointer (some ⟨t, 0, none⟩)) ∧ W'.cell? ⟨b8, 0, none⟩ = some (.int .i64 y.l) ∧ W'.cell? ⟨b8, 1, none⟩ = some (.int .i64 y.n) ∧ W'.cell? ⟨b8, 2, none⟩ = some (.int .i64 y.p)) (first | (with_reducible exact ⟨c3, f0, f1, f2⟩) | (simp only [World.cell?_drew]; with_reducible exact ⟨c3, f0, f1, f2⟩)) ((go_at_call 225; (with_reducible refine HINS.out.mono ?_); rintro e w2 ⟨rfl, hmd, A2, T2, i, ys, zs, htr, e1, e2⟩; have hmd1 := (ModB.of_below (Below.refl _ w1).drew (TS t a g)).trans hmd; have RM3 := Ai.Aside.mk (RM2.out.step hmd htr); have MD3 := Ai.Aside.mk (MD2.out.trans hmd); have HE := Ai.Aside.mk (And.intro e1 e2); replace c3 := hmd1.cell c3 hnm; replace f0 := hmd1.cell f0 hnb; replace f1 := hmd1.cell f1 hnb; replace f2 := hmd1.cell f2 hnb; clear hmd hmd1 htr e1 e2))
          rename_i hh
          clear hh f1 f2
          have HT2 := Ai.Aside.mk (show T2.xs.map op3 = P.map op3 ++ fs.take (k2 + 1) ++ Q.map op3 by
            have h1 : (ys ++ zs).map op3 = (P.map op3 ++ fs.take k2) ++ Q.map op3 := by rw [← HE.out.1]; exact HTX1.out
            have h2 := ins_pos (i := i) (x := y) h1 (by rw [← HE.out.2]; exact RM3.out.tr.good.sorted) HUV.out.1 HUV.out.2.1
            rw [HE.out.2, h2, HUV.out.2.2]; simp)
          go_wp2_with fail
          go_roundw
          case rel => exact ⟨k2 + 1, by omega, by go_num, ⟨A2, T2, RM3.out, HT2.out, MD3.out⟩⟩
          case measure => simp [intOf]; omega
        · have hkn : k2 = nf := by omega
          have hd0 : fs.take k2 = fs := by rw [hkn, HNF.out]; simp
          go_wp2_with fail
          go_ret
          exact ⟨rfl, MD.out.trans MD1.out, A', T', RM.out, by rw [HTX1.out, hd0]⟩
end Lo
end Go.Proofs.YtjmhkcfdmcjilaaGreat
set_option linter.unusedVariables false
set_option linter.unusedSimpArgs false
namespace Go.Proofs.YtjmhkcfdmcjilaaGreat
namespace Lo
open Go.RowKit Ai Fi

/-- The runs that begin from lo to hi. -/
def remL (xs : List Id3) (lo hi : Int) : List Id3 := xs.filter fun x => decide (lo ≤ x.b) && decide (x.b ≤ hi)

theorem rem_head {xs : List Id3} {lo hi : Int} {r : Id3} (hs : Sorted xs) (h : ceilL xs lo = some r) (hr : r.b ≤ hi) : remL xs lo hi = r :: remL xs (r.b + 1) hi ∧ lo ≤ r.b ∧ r ∈ xs := by
  unfold ceilL at h
  obtain ⟨F, hF⟩ : ∃ F, xs.filter (fun x => decide (lo ≤ x.b)) = r :: F := by
    cases h2 : xs.filter (fun x => decide (lo ≤ x.b)) with
    | nil => rw [h2] at h; simp at h
    | cons y F => rw [h2] at h; simp at h; subst h; exact ⟨F, rfl⟩
  have hm : r ∈ xs.filter (fun x => decide (lo ≤ x.b)) := by rw [hF]; exact List.mem_cons_self ..
  have hlo : lo ≤ r.b := by simpa using (List.mem_filter.1 hm).2
  have hp : Sorted (xs.filter (fun x => decide (lo ≤ x.b))) := List.Pairwise.filter _ hs
  rw [hF] at hp
  have hgt := (List.pairwise_cons.1 hp).1
  refine ⟨?_, hlo, (List.mem_filter.1 hm).1⟩
  have e1 : remL xs lo hi = (xs.filter (fun x => decide (lo ≤ x.b))).filter fun x => decide (x.b ≤ hi) := by
    rw [List.filter_filter]
    unfold remL
    congr 1
    funext x
    exact Bool.and_comm _ _
  have e2 : remL xs (r.b + 1) hi = (xs.filter (fun x => decide (lo ≤ x.b))).filter fun x => decide (r.b + 1 ≤ x.b) && decide (x.b ≤ hi) := by
    rw [List.filter_filter]
    unfold remL
    congr 1
    funext x
    by_cases h1 : r.b + 1 ≤ x.b
    · have h2 : lo ≤ x.b := by omega
      simp [h1, h2]
    · simp [h1]
  rw [e1, e2, hF, List.filter_cons_of_pos (by simpa using hr), List.filter_cons_of_neg (by simp; omega)]
  congr 1
  apply List.filter_congr
  intro x hx
  have := hgt x hx
  have h1 : r.b + 1 ≤ x.b := by omega
  simp [h1]

theorem rem_nil {xs : List Id3} {lo hi : Int} (h : ∀ r, ceilL xs lo = some r → hi < r.b) (hs : Sorted xs) : remL xs lo hi = [] := by
  apply List.filter_eq_nil_iff.2
  intro x hx
  simp only [Bool.and_eq_true, decide_eq_true_eq, not_and]
  intro h1
  cases h2 : ceilL xs lo with
  | none =>
    unfold ceilL at h2
    rw [List.head?_eq_none_iff] at h2
    have := List.filter_eq_nil_iff.1 h2 x hx
    simp at this; omega
  | some r =>
    have h3 := h r h2
    have hm : x ∈ xs.filter (fun x => decide (lo ≤ x.b)) := List.mem_filter.2 ⟨hx, by simpa using h1⟩
    have hp : Sorted (xs.filter (fun x => decide (lo ≤ x.b))) := List.Pairwise.filter _ hs
    unfold ceilL at h2
    obtain ⟨F, hF⟩ : ∃ F, xs.filter (fun x => decide (lo ≤ x.b)) = r :: F := by
      cases h4 : xs.filter (fun x => decide (lo ≤ x.b)) with
      | nil => rw [h4] at h2; simp at h2
      | cons y F => rw [h4] at h2; simp at h2; subst h2; exact ⟨F, rfl⟩
    rw [hF] at hm hp
    rcases List.mem_cons.1 hm with rfl | hm
    · omega
    · have := (List.pairwise_cons.1 hp).1 x hm; omega

/-- What is left behind a range, of a run that begins in it. -/
def stepB (hi : Int) (acc : Option Op3) (r : Id3) : Option Op3 := if max 0 (hi - r.b) < r.n then some ⟨r.b + max 0 (hi - r.b), r.n - max 0 (hi - r.b), r.p + max 0 (hi - r.b)⟩ else acc
/-- The run ahead of a range that reaches it. -/
def touch (xs : List Id3) (lba : Int) : Option Id3 := match floorL xs (lba - 1) with
  | none => none
  | some r => if lba ≤ r.b + r.n then some r else none
def cutA (xs : List Id3) (lba : Int) : Option Op3 := match touch xs lba with
  | none => none
  | some r => some ⟨r.b, lba - r.b, r.p⟩
def cutB0 (xs : List Id3) (lba n : Int) : Option Op3 := match touch xs lba with
  | none => none
  | some r => if lba + n < r.b + r.n then some ⟨lba + n, r.b + r.n - lba - n, r.p + lba + n - r.b⟩ else none
def cutP (xs : List Id3) (lba : Int) : List Id3 := match touch xs lba with
  | none => []
  | some r => [r]
def cutOld (xs : List Id3) (lba n : Int) : List Id3 := cutP xs lba ++ remL xs lba (lba + n)
def cutB (xs : List Id3) (lba n : Int) : Option Op3 := (remL xs lba (lba + n)).foldl (stepB (lba + n)) (cutB0 xs lba n)

/-- A pointer to a run, or nil; no block of the row v. -/
def PtrIs (w : World) (u : Value) (o : Option Op3) (v : Value) : Prop := match o with
  | none => u = .pointer none
  | some x => ∃ c, u = .pointer (some ⟨c, 0, none⟩) ∧ w.heap[c]? = some (.cells #[.int .i64 x.l, .int .i64 x.n, .int .i64 x.p] 94 (0, 0)) ∧ v.ownBlock ≠ some c

theorem PtrIs.below {w w' : World} {u v : Value} {o : Option Op3} (h : PtrIs w u o v) (hb : Below w.heap.size w w') : PtrIs w' u o v := by
  cases o with
  | none => exact h
  | some x =>
    obtain ⟨c, h1, h2, h3⟩ := h
    exact ⟨c, h1, by rw [hb.block c (Array.getElem?_eq_some_iff.1 h2).1]; exact h2, h3⟩

/-- Behind an append. -/
theorem PtrIs.grown {w w' : World} {u v v' : Value} {o : Option Op3} {base n : Nat} {ys : List Value} (h : PtrIs w u o v) (hg : w.grownBy w' v.ownBlock) (ho : w'.ownsRow base 94 3 v' (n + 1) ys) (hb : n = 0 → w.heap.size ≤ base) : PtrIs w' u o v' := by
  cases o with
  | none => exact h
  | some x =>
    obtain ⟨c, h1, h2, h3⟩ := h
    have hlt := (Array.getElem?_eq_some_iff.1 h2).1
    have h4 : w'.heap[c]? = some (.cells #[.int .i64 x.l, .int .i64 x.n, .int .i64 x.p] 94 (0, 0)) := (hg.block c hlt (fun e => h3 e.symm)).trans h2
    refine ⟨c, h1, h4, fun e => ?_⟩
    have hge := (ho.lt c e).1
    by_cases h0 : n = 0
    · have := hb h0; omega
    · rcases ho.2 with ⟨rfl, _⟩ | ⟨g, cap, cur, rfl, _, hh, hc, _, hsz, _⟩
      · simp [Value.ownBlock] at e
      · simp only [Value.ownBlock, Option.some.injEq] at e
        subst e
        rw [h4] at hh
        simp only [Option.some.injEq, Obj.cells.injEq] at hh
        rw [← hh.1] at hsz
        simp at hsz
        omega

theorem PtrIs.new (W : World) (x : Op3) {v : Value} {base n : Nat} {xs : List Value} (ho : W.ownsRow base 94 3 v n xs) : PtrIs (W.alloc (.cells #[.int .i64 x.l, .int .i64 x.n, .int .i64 x.p] 94)) (.pointer (some ⟨W.heap.size, 0, none⟩)) (some x) v :=
  ⟨W.heap.size, rfl, heap_alloc_new W _, fun e => by have := (ho.lt _ e).2; omega⟩

theorem own_bs {W : World} {base n : Nat} {v : Value} {xs : List Value} (h : W.ownsRow base 94 3 v n xs) (hb : base ≤ W.heap.size) (hn : n = 0 → v = .slice none 0 0) : ∃ bs, base ≤ bs ∧ bs ≤ W.heap.size ∧ (n = 0 → W.heap.size ≤ bs) ∧ W.ownsRow bs 94 3 v n xs := by
  by_cases h0 : n = 0
  · subst h0
    have hx : xs = [] := List.length_eq_zero_iff.1 (by have := h.1; omega)
    rw [hn rfl, hx]
    exact ⟨W.heap.size, hb, Nat.le_refl _, fun _ => Nat.le_refl _, World.ownsRow_nil _ _ _ _⟩
  · exact ⟨base, Nat.le_refl _, hb, fun e => absurd e h0, h⟩

theorem grown_alloc {w w' : World} {o : Obj} {row : Option Nat} (h : (w.alloc o).grownBy w' row) : w.grownBy w' row := by
  have hb := (Below.refl w.heap.size w).alloc (Nat.le_refl _) o
  exact ⟨h.os.trans hb.os, h.tape.trans hb.tape, h.output.trans hb.output, Nat.le_trans hb.size h.size, fun k hk hr => (h.block k (Nat.lt_of_lt_of_le hk hb.size) hr).trans (hb.block k hk)⟩

def CutPost (w : World) (xs : List Id3) (lba n : Int) (e : Ending) (w' : World) : Prop :=
  ∃ v ua ub v0, e = .returned (.tuple #[v, ua, ub]) ∧ w'.ownsRow w.heap.size 94 3 v (cutOld xs lba n).length (runV ((cutOld xs lba n).map op3)) ∧ PtrIs w' ua (cutA xs lba) v0 ∧ PtrIs w' ub (cutB xs lba n) v0 ∧ Below w.heap.size w w'
end Lo
end Go.Proofs.YtjmhkcfdmcjilaaGreat
set_option linter.unusedVariables false
set_option linter.unusedSimpArgs false
namespace Go.Proofs.YtjmhkcfdmcjilaaGreat
namespace Lo
open Go.RowKit Ai Fi

def Small (xs : List Id3) : Prop := ∀ x ∈ xs, 0 ≤ x.b ∧ 1 ≤ x.n ∧ x.b + x.n ≤ 512 ∧ 0 ≤ x.p ∧ x.p ≤ 2097152

theorem floorL_mem {xs : List Id3} {s : Int} {r : Id3} (h : floorL xs s = some r) : r ∈ xs ∧ r.b ≤ s := by
  have := List.mem_filter.1 (List.mem_of_getLast? h)
  exact ⟨this.1, by simpa using this.2⟩

def CutRel (w : World) (xs : List Id3) (lba n : Int) (v6 v7 v8 : Value) (wc : World) : Prop :=
  wc.ownsRow w.heap.size 94 3 v6 (cutP xs lba).length (runV ((cutP xs lba).map op3)) ∧ PtrIs wc v7 (cutA xs lba) v6 ∧ PtrIs wc v8 (cutB0 xs lba n) v6 ∧ Below w.heap.size w wc ∧ (cutP xs lba = [] → v6 = .slice none 0 0)

theorem cutPost_below {w w1 w2 : World} {xs : List Id3} {lba n : Int} {e : Ending} (h : CutPost w xs lba n e w1) (hb : Below w1.heap.size w1 w2) (hs : w.heap.size ≤ w1.heap.size) : CutPost w xs lba n e w2 := by
  obtain ⟨v, ua, ub, v0, h1, h2, h3, h4, h5⟩ := h
  exact ⟨v, ua, ub, v0, h1, own_below h2 hb, h3.below hb, h4.below hb, h5.trans (hb.mono hs)⟩

set_option maxHeartbeats 8000000 in
set_option maxRecDepth 100000 in
theorem cut_ok (w : World) (m t a g : Nat) (cp : Int) (A : Ar) (T : Tr) (hM : RMap w m t a g cp A T) (hf : Small T.xs) (lba n : Int) (hr : 0 ≤ lba ∧ 1 ≤ n ∧ lba + n ≤ 512) :
    Calls Tryz.prog 216 #[.pointer (some ⟨m, 0, none⟩), .int .i64 lba, .int .i64 n] w (CutPost w T.xs lba n) := by
  have RM := Ai.Aside.mk hM
  have HF := Ai.Aside.mk hf
  obtain ⟨c0, -, -, c3⟩ := hM.cells
  have hlm := hM.ltm
  have HFL := Ai.Aside.mk (floor_ok w t a g 513 A T.xs.length T hM.tr.good.rep hM.tr.good.sorted hM.tr.tr (lba - 1))
  obtain ⟨fl, hfl⟩ : ∃ fl, fl = floorL T.xs (lba - 1) := ⟨_, rfl⟩
  rw [← hfl] at HFL
  have HFLE := Ai.Aside.mk hfl
  obtain ⟨y, hy⟩ : ∃ y, y = o3 fl := ⟨_, rfl⟩
  obtain ⟨q, hq⟩ : ∃ q, q = fl.isSome := ⟨_, rfl⟩
  unfold floorPost at HFL
  rw [← hy, ← hq] at HFL
  have HY := Ai.Aside.mk (And.intro hy hq)
  have hw1 : IntKind.i64.wrap (lba + n) = lba + n := by rw [IntKind.wrap_i64]; omega
  clear hM hf hfl hy hq
  obtain ⟨i0, hi, hz0, hz1, hz2⟩ := info_parts info94
  go_enter Tryz.func216, Tryz.ntmps216
  go_upto_region 2 with (go_at_call 220; go_loud (refine HFL.out.mono ?_; rintro e w1 ⟨rfl, hb⟩; have HB := Ai.Aside.mk hb; clear hb))
  have RX := Ai.Aside.mk (Rx.new (w := w) w1 y HB.out.size)
  replace HB := Ai.Aside.mk (HB.out.alloc HB.out.size (.cells #[.int .i64 y.l, .int .i64 y.n, .int .i64 y.p] 94))
  obtain ⟨b9, hb9⟩ : ∃ b, b = w1.heap.size := ⟨_, rfl⟩
  rw [← hb9] at RX ⊢
  clear hb9 HFL
  generalize World.alloc w1 _ = w2 at RX HB ⊢
  go_cut [31] (fun v31 wc => ∃ qb : Bool, v31 = .bool qb ∧ Ai.Aside (qb = (touch T.xs lba).isSome ∧ Rx w wc b9 y ∧ Below w.heap.size w wc))
  case first =>
    obtain ⟨f0, f1, f2, -, -, -⟩ := RX.out.facts
    cases fl with
    | none =>
      have ht : touch T.xs lba = none := by unfold touch; rw [← HFLE.out]
      obtain rfl : q = false := HY.out.2
      have HT := Ai.Aside.mk ht
      clear ht
      go_wp2_with fail
      go_meet
      case rel => exact ⟨false, rfl, ⟨by rw [HT.out]; rfl, RX.out, HB.out⟩⟩
    | some r =>
      obtain rfl : q = true := HY.out.2
      have hyr : y = ⟨r.b, r.n, r.p⟩ := HY.out.1
      obtain ⟨hmem, hrs⟩ := floorL_mem HFLE.out.symm
      have hsm := HF.out r hmem
      have yb : 0 ≤ y.l ∧ 1 ≤ y.n ∧ y.l + y.n ≤ 512 ∧ 0 ≤ y.p ∧ y.p ≤ 2097152 ∧ y.l ≤ lba - 1 := by rw [hyr]; simp only; omega
      have HE := Ai.Aside.mk (fun W => end_ok W y (by unfold Fit; omega))
      have HTC := Ai.Aside.mk (show (touch T.xs lba).isSome = decide (lba ≤ y.l + y.n) by
        unfold touch
        rw [← HFLE.out, hyr]
        simp only
        split
        · rename_i h; simp [h]
        · rename_i h; simp [h])
      clear hmem hrs hsm hyr
      by_cases h1 : lba ≤ y.l + y.n
      · go_wp2_with (go_at_call 221; go_loud (refine (HE.out _).mono ?_; rintro e w3 ⟨rfl, hb⟩; have RX1 := Ai.Aside.mk (RX.out.below hb); have HB1 := Ai.Aside.mk (HB.out.trans (hb.mono HB.out.size)); clear RX HB hb f0 f1 f2; have RX := RX1; have HB := HB1; clear RX1 HB1; obtain ⟨f0, f1, f2, -, -, -⟩ := RX.out.facts))
        go_meet
        case rel => exact ⟨true, rfl, ⟨by rw [HTC.out]; exact (decide_eq_true h1).symm, RX.out, HB.out⟩⟩
      · go_wp2_with (go_at_call 221; go_loud (refine (HE.out _).mono ?_; rintro e w3 ⟨rfl, hb⟩; have RX1 := Ai.Aside.mk (RX.out.below hb); have HB1 := Ai.Aside.mk (HB.out.trans (hb.mono HB.out.size)); clear RX HB hb f0 f1 f2; have RX := RX1; have HB := HB1; clear RX1 HB1; obtain ⟨f0, f1, f2, -, -, -⟩ := RX.out.facts))
        go_meet
        case rel => exact ⟨_, rfl, ⟨HTC.out.symm, RX.out, HB.out⟩⟩
  case rest =>
    obtain ⟨qb, rfl, HC⟩ := hcut
    clear RX HB
    go_upto_if 31 with fail
    go_cut [6, 7, 8] (fun v6 v7 v8 wd => Ai.Aside (CutRel w T.xs lba n v6 v7 v8 wd))
    case first =>
      have RX := Ai.Aside.mk HC.out.2.1
      have HB := Ai.Aside.mk HC.out.2.2
      obtain ⟨f0, f1, f2, -, -, -⟩ := RX.out.facts
      cases qb
      · have HT := Ai.Aside.mk (show touch T.xs lba = none by
          have h := HC.out.1
          cases h2 : touch T.xs lba with
          | none => rfl
          | some r => rw [h2] at h; simp at h)
        go_wp2_with fail
        go_meet
        case rel => exact ⟨by unfold CutRel cutP cutA cutB0; rw [HT.out]; exact ⟨World.ownsRow_nil _ _ _ _, rfl, rfl, HB.out, fun _ => rfl⟩⟩
      · obtain ⟨r, ht⟩ : ∃ r, touch T.xs lba = some r := by
          have h := HC.out.1
          cases h2 : touch T.xs lba with
          | none => rw [h2] at h; simp at h
          | some r => exact ⟨r, rfl⟩
        have HT := Ai.Aside.mk ht
        have hfr : fl = some r ∧ lba ≤ r.b + r.n := by
          unfold touch at ht
          rw [← HFLE.out] at ht
          cases fl with
          | none => simp at ht
          | some r2 =>
            simp only at ht
            split at ht
            · rename_i h; simp at ht; subst ht; exact ⟨rfl, h⟩
            · simp at ht
        have hyr : y = ⟨r.b, r.n, r.p⟩ := by have := HY.out.1; rw [hfr.1] at this; exact this
        obtain ⟨hmem, hrs⟩ := floorL_mem (HFLE.out.symm.trans hfr.1)
        have hsm := HF.out r hmem
        have yb : 0 ≤ y.l ∧ 1 ≤ y.n ∧ y.l + y.n ≤ 512 ∧ 0 ≤ y.p ∧ y.p ≤ 2097152 ∧ y.l ≤ lba - 1 := by rw [hyr]; simp only; omega
        have HE := Ai.Aside.mk (fun W => end_ok W y (by unfold Fit; omega))
        have HR := Ai.Aside.mk hyr
        clear hmem hrs hsm hyr ht hfr HC
        go_upto_region 5 with (at_builtin; go_loud (refine wpList_append_own _ rfl (.tmp 32) (.tmp 34) 33 rfl wc.heap.size 94 i0 (.agg #[(.int .i64 0), (.int .i64 0), (.int .i64 0)]) 3 24 Tryz.underlying33 hi hz0 hz1 hz2 rfl (by decide) (.slice none 0 0) 0 [] rfl (World.ownsRow_nil _ _ _ _) ⟨wc.heap.size, 0, none⟩ 1 1 [.int .i64 y.l, .int .i64 y.n, .int .i64 y.p] rfl rfl three_new (by simp [Value.oneCell']) (by unfold maxLen; omega) (by omega) (by simp) ?_; intro v' w4 hown hgrow hnil; have HO := Ai.Aside.mk hown; have RX1 := Ai.Aside.mk (show Rx w w4 b9 y from ⟨(hgrow.block b9 (by have := RX.out.lt; simp; omega) (by simp [Value.ownBlock])).trans (RX.out.alloc _).box, RX.out.hb⟩); have HB1 := Ai.Aside.mk ((HB.out.alloc HB.out.size (.cells #[.int .i64 y.l, .int .i64 y.n, .int .i64 y.p] 94)).grown hgrow (by have := HB.out.size; simp; omega) (fun k hk => by simp [Value.ownBlock] at hk)); have hbs := Ai.Aside.mk HB.out.size; clear hown hgrow hnil RX HB f0 f1 f2; have RX := RX1; have HB := HB1; clear RX1 HB1; obtain ⟨f0, f1, f2, -, -, -⟩ := RX.out.facts))
        have HO1 := Ai.Aside.mk (show w4.ownsRow wc.heap.size 94 3 v' 1 (runV [y]) from HO.out)
        have PA := Ai.Aside.mk (PtrIs.new w4 ⟨y.l, lba - y.l, y.p⟩ HO1.out)
        have hal := (Below.refl w4.heap.size w4).alloc (Nat.le_refl _) (.cells #[.int .i64 y.l, .int .i64 (lba - y.l), .int .i64 y.p] 94)
        replace HO1 := Ai.Aside.mk (own_below HO1.out hal)
        replace RX := Ai.Aside.mk (RX.out.below hal)
        replace HB := Ai.Aside.mk (HB.out.trans (hal.mono HB.out.size))
        obtain ⟨ba, hba⟩ : ∃ b, b = w4.heap.size := ⟨_, rfl⟩
        rw [← hba] at PA ⊢
        clear hba hal f0 f1 f2 HO
        generalize World.alloc w4 _ = w5 at RX HB HO1 PA ⊢
        obtain ⟨f0, f1, f2, -, -, -⟩ := RX.out.facts
        by_cases h2 : lba + n < y.l + y.n
        · go_upto_region 6 with (go_at_call 221; go_loud (refine (HE.out _).mono ?_; rintro e w6 ⟨rfl, hb⟩; have RX1 := Ai.Aside.mk (RX.out.below hb); have HB1 := Ai.Aside.mk (HB.out.trans (hb.mono HB.out.size)); have HO2 := Ai.Aside.mk (own_below HO1.out hb); have PA1 := Ai.Aside.mk (PA.out.below hb); clear RX HB HO1 PA hb f0 f1 f2; have RX := RX1; have HB := HB1; have HO1 := HO2; have PA := PA1; clear RX1 HB1 HO2 PA1; obtain ⟨f0, f1, f2, -, -, -⟩ := RX.out.facts))
          have hw2 : IntKind.i64.wrap (y.l + y.n - lba) = y.l + y.n - lba := by rw [IntKind.wrap_i64]; omega
          have hw3 : IntKind.i64.wrap (y.l + y.n - lba - n) = y.l + y.n - lba - n := by rw [IntKind.wrap_i64]; omega
          have hw4 : IntKind.i64.wrap (y.p + lba) = y.p + lba := by rw [IntKind.wrap_i64]; omega
          have hw5 : IntKind.i64.wrap (y.p + lba + n) = y.p + lba + n := by rw [IntKind.wrap_i64]; omega
          have hw6 : IntKind.i64.wrap (y.p + lba + n - y.l) = y.p + lba + n - y.l := by rw [IntKind.wrap_i64]; omega
          replace RX := Ai.Aside.mk (RX.out.below (Below.refl _ w6).drew)
          replace HB := Ai.Aside.mk (HB.out.trans ((Below.refl _ w6).drew.mono HB.out.size))
          replace HO1 := Ai.Aside.mk (own_below HO1.out (Below.refl _ w6).drew)
          replace PA := Ai.Aside.mk (PA.out.below (Below.refl _ w6).drew)
          go_region_held3 (fun W' => W'.cell? ⟨b9, 0, none⟩ = some (.int .i64 y.l) ∧ W'.cell? ⟨b9, 1, none⟩ = some (.int .i64 y.n) ∧ W'.cell? ⟨b9, 2, none⟩ = some (.int .i64 y.p)) (first | (with_reducible exact ⟨f0, f1, f2⟩) | (simp only [World.cell?_drew]; with_reducible exact ⟨f0, f1, f2⟩) | (go_keep; done)) ((go_at_call 221; (with_reducible refine (HE.out _).mono ?_); rintro e w7 ⟨rfl, hb⟩; have RX1 := Ai.Aside.mk (RX.out.below hb); have HB1 := Ai.Aside.mk (HB.out.trans (hb.mono HB.out.size)); have HO2 := Ai.Aside.mk (own_below HO1.out hb); have PA1 := Ai.Aside.mk (PA.out.below hb); clear RX HB HO1 PA hb f0 f1 f2; have RX := RX1; have HB := HB1; have HO1 := HO2; have PA := PA1; clear RX1 HB1 HO2 PA1; obtain ⟨f0, f1, f2, -, -, -⟩ := RX.out.facts))
          rename_i hh
          clear hh
          have PB := Ai.Aside.mk (PtrIs.new w7 ⟨lba + n, y.l + y.n - lba - n, y.p + lba + n - y.l⟩ HO1.out)
          have hal := (Below.refl w7.heap.size w7).alloc (Nat.le_refl _) (.cells #[.int .i64 (lba + n), .int .i64 (y.l + y.n - lba - n), .int .i64 (y.p + lba + n - y.l)] 94)
          replace HO1 := Ai.Aside.mk (own_below HO1.out hal)
          replace HB := Ai.Aside.mk (HB.out.trans (hal.mono HB.out.size))
          replace PA := Ai.Aside.mk (PA.out.below hal)
          clear hal f0 f1 f2 RX
          have h2' : lba + n < r.b + r.n := by have := h2; rw [HR.out] at this; exact this
          go_wp2_with fail
          go_meet
          case rel =>
            refine ⟨?_⟩
            unfold CutRel cutP cutA cutB0
            rw [HT.out]
            simp only [if_pos h2']
            have h9 := HR.out
            subst h9
            exact ⟨own_base HO1.out hbs.out, PA.out, PB.out, HB.out, fun h => by cases h⟩
        · go_wp2_with (go_at_call 221; go_loud (refine (HE.out _).mono ?_; rintro e w6 ⟨rfl, hb⟩; have HB1 := Ai.Aside.mk (HB.out.trans (hb.mono HB.out.size)); have HO2 := Ai.Aside.mk (own_below HO1.out hb); have PA1 := Ai.Aside.mk (PA.out.below hb); clear RX HB HO1 PA hb f0 f1 f2; have HB := HB1; have HO1 := HO2; have PA := PA1; clear HB1 HO2 PA1))
          have h2' : ¬ lba + n < r.b + r.n := by have := h2; rw [HR.out] at this; simp only at this ⊢; omega
          go_meet
          case rel =>
            refine ⟨?_⟩
            unfold CutRel cutP cutA cutB0
            rw [HT.out]
            simp only [if_neg h2']
            have h9 := HR.out
            subst h9
            exact ⟨own_base HO1.out hbs.out, PA.out, rfl, HB.out, fun h => by cases h⟩
    case rest =>
      have HR := hcut
      clear hcut HC
      have HRM := Ai.Aside.mk RM.out
      go_wp2_with fail
      go_loopw [6, 8, 11] (fun v6 v8 v11 wr => ∃ at_ : Int, v11 = .int .i64 at_ ∧ lba ≤ at_ ∧ at_ ≤ 513 ∧ Ai.Aside (∃ D, remL T.xs lba (lba + n) = D ++ remL T.xs at_ (lba + n) ∧ wr.ownsRow w.heap.size 94 3 v6 (cutP T.xs lba ++ D).length (runV ((cutP T.xs lba ++ D).map op3)) ∧ PtrIs wr u7 (cutA T.xs lba) v6 ∧ PtrIs wr v8 (D.foldl (stepB (lba + n)) (cutB0 T.xs lba n)) v6 ∧ Below w.heap.size w wr ∧ (cutP T.xs lba ++ D = [] → v6 = .slice none 0 0))) (fun _ _ v11 _ => (513 - intOf v11).toNat)
      case atStart => exact ⟨lba, rfl, by omega, by omega, ⟨[], rfl, by simpa using HR.out.1, HR.out.2.1, HR.out.2.2.1, HR.out.2.2.2.1, by simpa using HR.out.2.2.2.2⟩⟩
      case round =>
        obtain ⟨at_, rfl, ha1, ha2, HI⟩ := hrel
        clear HR
        have hgo := RM.out.tr.good
        obtain ⟨D, hD, hown, hpa, hpb, hbel, hnil⟩ := HI.out
        have HD := Ai.Aside.mk hD
        have HO := Ai.Aside.mk hown
        have PA := Ai.Aside.mk hpa
        have PB := Ai.Aside.mk hpb
        have HB := Ai.Aside.mk hbel
        have HNIL := Ai.Aside.mk hnil
        have HS := Ai.Aside.mk hgo.sorted
        have RMw := Ai.Aside.mk (RM.out.below hbel)
        obtain ⟨c0', -, -, c3'⟩ := RMw.out.cells
        clear HI hD hown hpa hpb hbel hnil hgo c0 c3
        have HFIN := Ai.Aside.mk (fun (h : remL T.xs at_ (lba + n) = []) => show CutPost w T.xs lba n (.returned (.tuple #[u6, u7, u8])) wr from by
          have h1 := HD.out
          rw [h, List.append_nil] at h1
          exact ⟨u6, u7, u8, u6, rfl, by rw [cutOld, h1]; exact HO.out, PA.out, by rw [cutB, h1]; exact PB.out, HB.out⟩)
        by_cases hle : at_ ≤ lba + n
        · have HCE := Ai.Aside.mk (ceil_ok wr t a g 513 A T.xs.length T RM.out.tr.good.rep RM.out.tr.good.sorted RMw.out.tr.tr at_)
          obtain ⟨cl, hcl⟩ : ∃ cl, cl = ceilL T.xs at_ := ⟨_, rfl⟩
          rw [← hcl] at HCE
          obtain ⟨y2, hy2⟩ : ∃ y2, y2 = o3 cl := ⟨_, rfl⟩
          unfold ceilPost at HCE
          rw [← hy2] at HCE
          have HCL := Ai.Aside.mk (And.intro hcl hy2)
          clear hcl hy2
          cases cl with
          | none =>
            have HNO := Ai.Aside.mk (rem_nil (hi := lba + n) (fun r hr => by rw [← HCL.out.1] at hr; cases hr) HS.out)
            go_wp2_with (go_at_call 223; go_loud (refine HCE.out.mono ?_; rintro e w3 ⟨rfl, hb⟩; have HB3 := Ai.Aside.mk hb; clear hb))
            go_ret3
            exact cutPost_below (HFIN.out HNO.out) (HB3.out.alloc (Nat.le_of_lt_succ (Nat.lt_succ_of_le HB3.out.size)) _) HB.out.size
          | some r =>
            have hyr : y2 = ⟨r.b, r.n, r.p⟩ := HCL.out.2
            have hmem : r ∈ T.xs := by
              have := HCL.out.1.symm
              unfold ceilL at this
              exact (List.mem_filter.1 (List.mem_of_mem_head? (by rw [this]; rfl))).1
            have hsm := HF.out r hmem
            have yb : 0 ≤ y2.l ∧ 1 ≤ y2.n ∧ y2.l + y2.n ≤ 512 ∧ 0 ≤ y2.p ∧ y2.p ≤ 2097152 := by rw [hyr]; simp only; omega
            have HYR := Ai.Aside.mk hyr
            clear hsm
            by_cases hin : y2.l ≤ lba + n
            · have hin' : r.b ≤ lba + n := by have := hin; rw [hyr] at this; exact this
              have hrh := rem_head HS.out HCL.out.1.symm hin'
              have HRH := Ai.Aside.mk hrh
              have hlo : at_ ≤ y2.l := by rw [hyr]; exact hrh.2.1
              clear hrh hin' hyr hmem
              have hnl : ¬ lba + n < y2.l := by omega
              go_upto_region 11 with (go_at_call 223; go_loud (refine HCE.out.mono ?_; rintro e w3 ⟨rfl, hb⟩; have HB3 := Ai.Aside.mk hb; clear hb))
              have RX := Ai.Aside.mk (Rx.new (w := w) w3 y2 (Nat.le_trans HB.out.size HB3.out.size))
              have HOLD := Ai.Aside.mk (fun k e => (HO.out.lt k e).2)
              have hal := (Below.refl w3.heap.size w3).alloc (Nat.le_refl _) (.cells #[.int .i64 y2.l, .int .i64 y2.n, .int .i64 y2.p] 94)
              have hb4 := HB3.out.trans (hal.mono HB3.out.size)
              replace HO := Ai.Aside.mk (own_below HO.out hb4)
              replace PA := Ai.Aside.mk (PA.out.below hb4)
              replace PB := Ai.Aside.mk (PB.out.below hb4)
              replace HB := Ai.Aside.mk (HB.out.trans (hb4.mono HB.out.size))
              obtain ⟨b12, hb12⟩ : ∃ b, b = w3.heap.size := ⟨_, rfl⟩
              have hnw : u6.ownBlock ≠ some b12 := fun e => by
                have hold := HOLD.out b12 e
                have := HB3.out.size
                omega
              rw [← hb12] at RX ⊢
              clear hb12 hal hb4 HB3 HFIN HOLD
              generalize World.alloc w3 _ = w4 at RX HO PA PB HB ⊢
              obtain ⟨f0, f1, f2, -, -, -⟩ := RX.out.facts
              obtain ⟨L, hL⟩ : ∃ L, L = (cutP T.xs lba ++ D).length := ⟨_, rfl⟩
              rw [← hL] at HO
              have hLb : L ≤ 512 := by
                have h1 := RM.out.tr.good.len
                have h2 : (remL T.xs lba (lba + n)).length ≤ T.xs.length := List.length_filter_le _ _
                have h3 : (cutP T.xs lba).length ≤ 1 := by unfold cutP; split <;> simp
                have h4 := congrArg List.length HRH.out.1
                have h5 := congrArg List.length HD.out
                rw [List.length_append] at h5 hL
                simp at h4
                omega
              have HL := Ai.Aside.mk hL
              obtain ⟨bs, hbs1, hbs2, hbs3, hob⟩ := own_bs HO.out HB.out.size (fun h0 => HNIL.out (List.length_eq_zero_iff.1 (HL.out.symm.trans h0)))
              have HOB := Ai.Aside.mk hob
              have HBS := Ai.Aside.mk (And.intro hbs1 (And.intro hbs2 hbs3))
              clear hob hL hbs1 hbs2 hbs3
              go_upto_region 12 with (at_builtin; go_loud (refine wpList_append_own _ rfl (.tmp 97) (.tmp 99) 33 rfl bs 94 i0 (.agg #[(.int .i64 0), (.int .i64 0), (.int .i64 0)]) 3 24 Tryz.underlying33 hi hz0 hz1 hz2 rfl (by decide) u6 L (runV ((cutP T.xs lba ++ D).map op3)) rfl (HOB.out.alloc _) ⟨w4.heap.size, 0, none⟩ 1 1 [.int .i64 y2.l, .int .i64 y2.n, .int .i64 y2.p] rfl rfl three_new (by simp [Value.oneCell']) (by unfold maxLen; omega) (by omega) (by have := HBS.out.2.1; simp; omega) ?_; intro v' w5 hown hgrow hnil; have HOWN := Ai.Aside.mk hown; have HGROW := Ai.Aside.mk hgrow; clear hown hgrow hnil))
              have hgr := grown_alloc HGROW.out
              have PA5 := Ai.Aside.mk (PA.out.grown hgr HOWN.out HBS.out.2.2)
              have PB5 := Ai.Aside.mk (PB.out.grown hgr HOWN.out HBS.out.2.2)
              have RX5 := Ai.Aside.mk (show Rx w w5 b12 y2 from ⟨(hgr.block b12 RX.out.lt (fun e => hnw e.symm)).trans RX.out.box, RX.out.hb⟩)
              have HB5 := Ai.Aside.mk (HB.out.grown hgr HB.out.size (fun k hk => (HO.out.lt k hk).1))
              have HO5 := Ai.Aside.mk (show w5.ownsRow w.heap.size 94 3 v' (cutP T.xs lba ++ (D ++ [r])).length (runV ((cutP T.xs lba ++ (D ++ [r])).map op3)) from by
                have h1 : (cutP T.xs lba ++ (D ++ [r])).length = L + 1 := by rw [HL.out]; simp; omega
                have h2 : runV ((cutP T.xs lba ++ (D ++ [r])).map op3) = runV ((cutP T.xs lba ++ D).map op3) ++ [.int .i64 y2.l, .int .i64 y2.n, .int .i64 y2.p] := by
                  rw [← List.append_assoc, List.map_append, runV_append, HYR.out]; rfl
                rw [h1, h2]
                exact own_base HOWN.out HBS.out.1)
              have HD5 := Ai.Aside.mk (show remL T.xs lba (lba + n) = (D ++ [r]) ++ remL T.xs (y2.l + 1) (lba + n) by
                have h1 : y2.l = r.b := by rw [HYR.out]
                rw [HD.out, HRH.out.1, h1]; simp)
              have HFO := Ai.Aside.mk (show (D ++ [r]).foldl (stepB (lba + n)) (cutB0 T.xs lba n) = stepB (lba + n) (D.foldl (stepB (lba + n)) (cutB0 T.xs lba n)) r by simp)
              have HSB := Ai.Aside.mk (show ∀ acc, stepB (lba + n) acc r = if max 0 (lba + n - y2.l) < y2.n then some ⟨y2.l + max 0 (lba + n - y2.l), y2.n - max 0 (lba + n - y2.l), y2.p + max 0 (lba + n - y2.l)⟩ else acc from fun acc => by rw [HYR.out]; rfl)
              clear HGROW hgr HOWN HOB PA PB RX HB HO HD HRH hnw f0 f1 f2 HNIL
              obtain ⟨f0, f1, f2, -, -, -⟩ := RX5.out.facts
              have hlt12 := RX5.out.lt
              by_cases h3 : y2.l < lba + n
              · have hm : max 0 (lba + n - y2.l) = lba + n - y2.l := by omega
                rw [hm] at HSB
                clear hm
                by_cases h4 : lba + n - y2.l < y2.n
                · go_wp2_with fail
                  have hal := (Below.refl w5.heap.size w5).alloc (Nat.le_refl _) (.cells #[.int .i64 (y2.l + (lba + n - y2.l)), .int .i64 (y2.n - (lba + n - y2.l)), .int .i64 (y2.p + (lba + n - y2.l))] 94)
                  have HPB := Ai.Aside.mk (show PtrIs (w5.alloc (.cells #[.int .i64 (y2.l + (lba + n - y2.l)), .int .i64 (y2.n - (lba + n - y2.l)), .int .i64 (y2.p + (lba + n - y2.l))] 94)) (.pointer (some ⟨w5.heap.size, 0, none⟩)) ((D ++ [r]).foldl (stepB (lba + n)) (cutB0 T.xs lba n)) v' by
                    rw [HFO.out, HSB.out, if_pos h4]
                    exact PtrIs.new w5 ⟨y2.l + (lba + n - y2.l), y2.n - (lba + n - y2.l), y2.p + (lba + n - y2.l)⟩ HO5.out)
                  go_roundw
                  case rel => exact ⟨y2.l + 1, rfl, by omega, by omega, ⟨D ++ [r], HD5.out, own_below HO5.out hal, PA5.out.below hal, HPB.out, HB5.out.trans (hal.mono HB5.out.size), fun h => by simp at h⟩⟩
                  case measure => simp [intOf]; omega
                · go_wp2_with fail
                  have HPB := Ai.Aside.mk (show PtrIs w5 u8 ((D ++ [r]).foldl (stepB (lba + n)) (cutB0 T.xs lba n)) v' by rw [HFO.out, HSB.out, if_neg h4]; exact PB5.out)
                  go_roundw
                  case rel => exact ⟨y2.l + 1, rfl, by omega, by omega, ⟨D ++ [r], HD5.out, HO5.out, PA5.out, HPB.out, HB5.out, fun h => by simp at h⟩⟩
                  case measure => simp [intOf]; omega
              · have hm : max 0 (lba + n - y2.l) = 0 := by omega
                rw [hm] at HSB
                clear hm
                by_cases h4 : 0 < y2.n
                · go_wp2_with fail
                  have hal := (Below.refl w5.heap.size w5).alloc (Nat.le_refl _) (.cells #[.int .i64 (y2.l), .int .i64 (y2.n), .int .i64 (y2.p)] 94)
                  have HPB := Ai.Aside.mk (show PtrIs (w5.alloc (.cells #[.int .i64 (y2.l), .int .i64 (y2.n), .int .i64 (y2.p)] 94)) (.pointer (some ⟨w5.heap.size, 0, none⟩)) ((D ++ [r]).foldl (stepB (lba + n)) (cutB0 T.xs lba n)) v' by
                    rw [HFO.out, HSB.out, if_pos h4]
                    simp only [Int.add_zero, Int.sub_zero]
                    exact PtrIs.new w5 ⟨y2.l, y2.n, y2.p⟩ HO5.out)
                  go_roundw
                  case rel => exact ⟨y2.l + 1, rfl, by omega, by omega, ⟨D ++ [r], HD5.out, own_below HO5.out hal, PA5.out.below hal, HPB.out, HB5.out.trans (hal.mono HB5.out.size), fun h => by simp at h⟩⟩
                  case measure => simp [intOf]; omega
                · exfalso; omega
            · have HNO := Ai.Aside.mk (rem_nil (hi := lba + n) (fun q hq => by rw [← HCL.out.1] at hq; simp at hq; subst hq; rw [hyr] at hin; simp at hin; omega) HS.out)
              clear hyr hmem
              go_wp2_with (go_at_call 223; go_loud (refine HCE.out.mono ?_; rintro e w3 ⟨rfl, hb⟩; have HB3 := Ai.Aside.mk hb; clear hb))
              go_ret3
              exact cutPost_below (HFIN.out HNO.out) (HB3.out.alloc (Nat.le_of_lt_succ (Nat.lt_succ_of_le HB3.out.size)) _) HB.out.size
        · have HNO := Ai.Aside.mk (rem_nil (hi := lba + n) (lo := at_) (fun q hq => by
            have h1 : q ∈ T.xs.filter (fun x => decide (at_ ≤ x.b)) := List.mem_of_mem_head? (by unfold ceilL at hq; rw [hq]; rfl)
            have := (List.mem_filter.1 h1).2
            simp at this; omega) HS.out)
          go_wp2_with fail
          go_ret3
          exact HFIN.out HNO.out
end Lo
end Go.Proofs.YtjmhkcfdmcjilaaGreat
