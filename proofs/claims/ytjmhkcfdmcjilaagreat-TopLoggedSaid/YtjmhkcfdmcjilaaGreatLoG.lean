/-
  Walk of the tree: insert.
-/
import Derived.Test.YtjmhkcfdmcjilaaGreatLoE
set_option linter.unusedVariables false
set_option linter.unusedSimpArgs false
namespace Go.Proofs.YtjmhkcfdmcjilaaGreat
namespace Lo
open Go.RowKit Ai Fi

def InsPost (w : World) (t a g cap : Nat) (A : Ar) (root : Nat) (len : Int) (T : Tr) (x : Id3) (e : Ending) (w' : World) : Prop :=
  ∃ A' T', e = .returned (.int .u32 T'.root) ∧ Tw w w' t a g cap A' root len ∧ Ins A A' T T' x

set_option maxHeartbeats 4000000 in
set_option maxRecDepth 100000 in
theorem insert_ok (t a g cap : Nat) (A : Ar) (root : Nat) (len : Int) (x : Id3) (hz : Zero A) (hL : LB A) (hH : HB A 600) (hf : 1 ≤ x.i ∧ x.i < 513 ∧ (A.pl x.i).live = true) (hnd : (A.pl x.i).nd = ⟨0, 0, 1, x.b, x.n, x.p⟩) :
    ∀ (T : Tr), Rep A T → (ids T.xs).Nodup → Sorted T.xs → x.i ∉ ids T.xs → T.xs.length ≤ 511 → ∀ w, TreeAt w t a g cap A root len →
    Calls Tryz.prog 234 #[.pointer (some ⟨t, 0, none⟩), .int .u32 T.root, .int .u32 x.i, .int .i64 x.b] w (InsPost w t a g cap A root len T x) := by
  intro T
  induction T with
  | nil =>
    intro hr hn hs hx hlen w hT
    have HI := Aside.mk (show Ins A A .nil (.node x.i .nil .nil x.b x.n x.p) x from ins_nil hf hnd)
    have TW := Aside.mk (Tw.start hT)
    clear hr hn hs hx hlen hT hz hL hH hf hnd
    simp only [Tr.root]
    obtain ⟨xi, exi⟩ : ∃ xi, xi = x.i := ⟨_, rfl⟩
    obtain ⟨xb, exb⟩ : ∃ xb, xb = x.b := ⟨_, rfl⟩
    rw [← exi, ← exb]
    have EX := Aside.mk exi
    clear exi exb
    go_enter Tryz.func234, Tryz.ntmps234
    go_wp2_with fail
    go_ret
    exact ⟨A, _, by rw [EX.out]; rfl, TW.out, HI.out⟩
  | node i l r b n p ihl ihr =>
    intro hr hn hs hx hlen w hT
    obtain ⟨m1, m2, m3, m4, m5⟩ := nodup_parts (l := l) (r := r) (x := ⟨i, b, n, p⟩) hn
    have hx' := hx
    simp only [Tr.xs, ids_append, ids_cons, List.mem_append, List.mem_cons, not_or] at hx'
    have hlen' : l.xs.length + r.xs.length + 1 ≤ 511 := by simp only [Tr.xs, List.length_append, List.length_cons] at hlen; omega
    have IHL := Aside.mk (ihl hr.2.2.2.2.1 m1 hs.left hx'.1 (by omega))
    have IHR := Aside.mk (ihr hr.2.2.2.2.2 m2 hs.right hx'.2.2 (by omega))
    have hi : i < 4294967296 := by have := hr.2.1; omega
    have hi0 : ¬ (i : Int) = 0 := by have := hr.1; omega
    have HG := Aside.mk (fun (W : World) (h : TreeAt W t a g cap A root len) => get_ok W t a g cap A root len h i hi)
    rw [hr.get] at HG
    have TW := Aside.mk (Tw.start hT)
    have lr := hr.2.2.2.2.1.root_lt
    have rr := hr.2.2.2.2.2.root_lt
    have HLeft := Aside.mk (fun (A' : Ar) (l' : Tr) (h : Int) (hb : x.b < b) (hi : Ins A A' l l' x) => ins_left hz (h := h) hr hn hs hx hb hi)
    have HRight := Aside.mk (fun (A' : Ar) (r' : Tr) (h : Int) (hb : ¬ x.b < b) (hi : Ins A A' r r' x) => ins_right hz (h := h) hr hn hs hx hb hi)
    have HBd := Aside.mk (fun (A' : Ar) (S S' : Tr) (hi : Ins A A' S S' x) (hl : S.xs.length ≤ 511) => kept_bounds hi.2.1 hi.1 (fun j hj => (hi.ids j).2 (by simpa using hj)) hL hH (by rw [hi.len]; omega))
    have HLEN := Aside.mk hlen'
    obtain ⟨nd, hnode⟩ : ∃ nd : Nd, nd = ⟨l.root, r.root, 1 + max l.ht r.ht, b, n, p⟩ := ⟨_, rfl⟩
    rw [← hnode] at HG
    have HND := Aside.mk hnode
    have ebd : nd.b = b := by rw [hnode]
    have eld : nd.l = l.root := by rw [hnode]
    have erd : nd.r = r.root := by rw [hnode]
    clear hr hn hs hx hlen hlen' hT hz hL hH hf hnd ihl ihr m1 m2 m3 m4 m5 hx' hnode
    rw [Tr.root_node]
    obtain ⟨xi, exi⟩ : ∃ xi, xi = x.i := ⟨_, rfl⟩
    obtain ⟨xb, exb⟩ : ∃ xb, xb = x.b := ⟨_, rfl⟩
    rw [← exi, ← exb] at IHL IHR ⊢
    rw [← exb] at HLeft HRight
    have EBD := Aside.mk ebd
    rw [← eld] at IHL
    rw [← erd] at IHR
    have ELD := Aside.mk eld
    have ERD := Aside.mk erd
    have hnl : nd.l < 4294967296 ∧ nd.r < 4294967296 := by rw [eld, erd]; omega
    clear exi exb ebd eld erd lr rr
    by_cases hb : xb < nd.b
    · go_enter Tryz.func234, Tryz.ntmps234
      go_upto_region 4 with (go_at_call 227; go_loud (refine (HG.out _ TW.out.tr).mono ?_; rintro e w1 ⟨rfl, hbl⟩; have TW1 := Aside.mk (TW.out.below hbl); clear TW hbl; have TW := TW1; clear TW1))
      have B9 := Aside.mk (Bx.new (w := w) w1 nd TW.out.mod.size)
      replace TW := Aside.mk (TW.out.alloc (.cells #[.int .u32 nd.l, .int .u32 nd.r, .int .i64 nd.h, .int .i64 nd.b, .int .i64 nd.n, .int .i64 nd.p] 221))
      obtain ⟨b9, hb9⟩ : ∃ b, b = w1.heap.size := ⟨_, rfl⟩
      rw [← hb9] at B9 ⊢
      clear hb9
      generalize World.alloc w1 _ = w2 at TW B9 ⊢
      obtain ⟨f0, f1, f2, f3, f4, f5, fz⟩ := B9.out.facts
      go_upto_region 7 with (go_at_call 234; go_loud (refine (IHL.out _ TW.out.tr).mono ?_; rintro e w3 ⟨A', l', rfl, tw, hins⟩; have TW1 := Aside.mk (TW.out.step tw.mod tw.tr); have B91 := Aside.mk (B9.out.modB tw.mod TW.out.ltg); have HI := Aside.mk hins; clear TW B9 tw hins f0 f1 f2 f3 f4 f5 fz; have TW := TW1; have B9 := B91; clear TW1 B91; obtain ⟨f0, f1, f2, f3, f4, f5, fz⟩ := B9.out.facts))
      clear f0 f1 f2 f3 f4 f5 fz
      obtain ⟨n2, hn2⟩ : ∃ n2 : Nd, n2 = ⟨l'.root, nd.r, nd.h, nd.b, nd.n, nd.p⟩ := ⟨_, rfl⟩
      replace TW := Aside.mk (TW.out.set B9.out.hb 0 (.int .u32 l'.root))
      replace B9 := Aside.mk (B9.out.put 0 (.int .u32 l'.root) n2 (by rw [hn2]; rfl))
      generalize World.setCell _ _ _ = w6 at TW B9 ⊢
      have HN2 := Aside.mk hn2
      have hl2 : l'.root < 513 := HI.out.1.root_lt
      have hnl2 : n2.l < 4294967296 ∧ n2.r < 4294967296 := by rw [hn2]; exact ⟨by show l'.root < _; omega, hnl.2⟩
      clear hn2 hl2
      obtain ⟨bL, bH⟩ := HBd.out A' l l' HI.out (by have := HLEN.out; omega)
      have HBAL := Aside.mk (fun (W : World) (h : TreeAt W t a g cap A' root len) => bal_ok W t a g cap A' root len h i hi n2 hnl2 bL 600 (by omega) bH)
      clear bL bH
      unfold Nd.V at HBAL
      obtain ⟨f0, f1, f2, f3, f4, f5, fz⟩ := B9.out.facts
      go_wp2_with (go_at_call 236; go_loud (refine (HBAL.out _ TW.out.tr).mono ?_; rintro e w8 ⟨rfl, tw⟩; have TW1 := Aside.mk (TW.out.step tw.mod tw.tr); clear TW tw B9 f0 f1 f2 f3 f4 f5 fz; have TW := TW1; clear TW1))
      go_ret
      obtain ⟨T', h1, h2⟩ := HLeft.out A' l' nd.h (by rw [← EBD.out]; exact hb) HI.out
      have e2 : n2 = ⟨l'.root, r.root, nd.h, b, n, p⟩ := by rw [HN2.out, HND.out]
      rw [← e2] at h1 h2
      exact ⟨_, T', by rw [← h2]; rfl, TW.out, h1⟩
    · go_enter Tryz.func234, Tryz.ntmps234
      go_upto_region 4 with (go_at_call 227; go_loud (refine (HG.out _ TW.out.tr).mono ?_; rintro e w1 ⟨rfl, hbl⟩; have TW1 := Aside.mk (TW.out.below hbl); clear TW hbl; have TW := TW1; clear TW1))
      have B9 := Aside.mk (Bx.new (w := w) w1 nd TW.out.mod.size)
      replace TW := Aside.mk (TW.out.alloc (.cells #[.int .u32 nd.l, .int .u32 nd.r, .int .i64 nd.h, .int .i64 nd.b, .int .i64 nd.n, .int .i64 nd.p] 221))
      obtain ⟨b9, hb9⟩ : ∃ b, b = w1.heap.size := ⟨_, rfl⟩
      rw [← hb9] at B9 ⊢
      clear hb9
      generalize World.alloc w1 _ = w2 at TW B9 ⊢
      obtain ⟨f0, f1, f2, f3, f4, f5, fz⟩ := B9.out.facts
      go_upto_region 7 with (go_at_call 234; go_loud (refine (IHR.out _ TW.out.tr).mono ?_; rintro e w3 ⟨A', r', rfl, tw, hins⟩; have TW1 := Aside.mk (TW.out.step tw.mod tw.tr); have B91 := Aside.mk (B9.out.modB tw.mod TW.out.ltg); have HI := Aside.mk hins; clear TW B9 tw hins f0 f1 f2 f3 f4 f5 fz; have TW := TW1; have B9 := B91; clear TW1 B91; obtain ⟨f0, f1, f2, f3, f4, f5, fz⟩ := B9.out.facts))
      clear f0 f1 f2 f3 f4 f5 fz
      obtain ⟨n2, hn2⟩ : ∃ n2 : Nd, n2 = ⟨nd.l, r'.root, nd.h, nd.b, nd.n, nd.p⟩ := ⟨_, rfl⟩
      replace TW := Aside.mk (TW.out.set B9.out.hb 1 (.int .u32 r'.root))
      replace B9 := Aside.mk (B9.out.put 1 (.int .u32 r'.root) n2 (by rw [hn2]; rfl))
      generalize World.setCell _ _ _ = w6 at TW B9 ⊢
      have HN2 := Aside.mk hn2
      have hl2 : r'.root < 513 := HI.out.1.root_lt
      have hnl2 : n2.l < 4294967296 ∧ n2.r < 4294967296 := by rw [hn2]; exact ⟨hnl.1, by show r'.root < _; omega⟩
      clear hn2 hl2
      obtain ⟨bL, bH⟩ := HBd.out A' r r' HI.out (by have := HLEN.out; omega)
      have HBAL := Aside.mk (fun (W : World) (h : TreeAt W t a g cap A' root len) => bal_ok W t a g cap A' root len h i hi n2 hnl2 bL 600 (by omega) bH)
      clear bL bH
      unfold Nd.V at HBAL
      obtain ⟨f0, f1, f2, f3, f4, f5, fz⟩ := B9.out.facts
      go_wp2_with (go_at_call 236; go_loud (refine (HBAL.out _ TW.out.tr).mono ?_; rintro e w8 ⟨rfl, tw⟩; have TW1 := Aside.mk (TW.out.step tw.mod tw.tr); clear TW tw B9 f0 f1 f2 f3 f4 f5 fz; have TW := TW1; clear TW1))
      go_ret
      obtain ⟨T', h1, h2⟩ := HRight.out A' r' nd.h (by rw [← EBD.out]; exact hb) HI.out
      have e2 : n2 = ⟨l.root, r'.root, nd.h, b, n, p⟩ := by rw [HN2.out, HND.out]
      rw [← e2] at h1 h2
      exact ⟨_, T', by rw [← h2]; rfl, TW.out, h1⟩
end Lo
end Go.Proofs.YtjmhkcfdmcjilaaGreat
