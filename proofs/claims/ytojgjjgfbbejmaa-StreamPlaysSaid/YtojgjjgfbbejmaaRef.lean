/- The document's own detector (package ferruleref13): what New comes to. -/
import Derived.Test.YtojgjjgfbbejmaaLast
import Derived.Maps.AppendAt
namespace Go.Proofs.Ytojgjjgfbbejmaa
open Go.RowKit
set_option linter.unusedVariables false
set_option linter.unusedSimpArgs false

theorem own_set {w : World} {base : Nat} {e : TypeId} {size n : Nat} {v : Value} {xs : List Value} (h : w.ownsRow base e size v n xs) {p : Addr} (hne : v.ownBlock ≠ some p.block) (u : Value) : (w.setCell p u).ownsRow base e size v n xs := by
  refine ⟨h.1, ?_⟩
  rcases h.2 with hn | ⟨g, cap, cur, rfl, hb, hgg, rest⟩
  · exact .inl hn
  · exact .inr ⟨g, cap, cur, rfl, hb, (Below.heap_setCell w p u g (fun e => hne (by simp [Value.ownBlock, e]))).trans hgg, rest⟩
theorem own_lt {w : World} {base : Nat} {e : TypeId} {size n : Nat} {v : Value} {xs : List Value} (h : w.ownsRow base e size v n xs) (k : Nat) (hk : v.ownBlock = some k) : k < w.heap.size := by
  rcases h.2 with ⟨rfl, -⟩ | ⟨g, cap, cur, rfl, hb, hgg, rest⟩
  · simp [Value.ownBlock] at hk
  · simp only [Value.ownBlock, Option.some.injEq] at hk; subst hk; exact (Array.getElem?_eq_some_iff.1 hgg).1
theorem own_ne_block {w : World} {base : Nat} {e t : TypeId} {size n g : Nat} {v : Value} {xs : List Value} {cs : Array Value} (h : w.ownsRow base e size v n xs) (hg : w.heap[g]? = some (.cells cs t (0, 0))) (hne : e ≠ t) : v.ownBlock ≠ some g := by
  intro hk
  rcases h.2 with ⟨rfl, -⟩ | ⟨g', cap, cur, rfl, hb, hgg, rest⟩
  · simp [Value.ownBlock] at hk
  · simp only [Value.ownBlock, Option.some.injEq] at hk; subst hk
    rw [hgg] at hg
    simp at hg
    exact hne hg.2

theorem own_some {w : World} {base : Nat} {e : TypeId} {size n : Nat} {v : Value} {xs : List Value} (h : w.ownsRow base e size v n xs) (hn : 1 ≤ n) : ∃ g cap, v = .slice (some ⟨g, 0, none⟩) n cap := by
  rcases h.2 with ⟨_, h0⟩ | ⟨g, cap, cur, rfl, _⟩
  · omega
  · exact ⟨g, cap, rfl⟩
def Apart (v v' : Value) : Prop := ∀ k, v.ownBlock = some k → v'.ownBlock ≠ some k
theorem Apart.symm {v v' : Value} (h : Apart v v') : Apart v' v := fun k hk hk' => h k hk' hk

/-- The reference's three lists in the making. -/
structure Mk (w : World) (base r : Nat) (v0 v1 v2 : Value) (x0 x1 x2 : List Int) : Prop where
  d : w.heap[r]? = some (.cells #[v0, v1, v2, .int .i64 0] 40 (0, 0))
  o0 : w.ownsRow base 3 1 v0 x0.length (x0.map (Value.int .i64))
  o1 : w.ownsRow base 3 1 v1 x1.length (x1.map (Value.int .i64))
  o2 : w.ownsRow base 3 1 v2 x2.length (x2.map (Value.int .i64))
  a01 : Apart v0 v1
  a02 : Apart v0 v2
  a12 : Apart v1 v2

theorem apart_next {w : World} {v v' u : Value} {base n : Nat} {xs : List Value} (h : Apart v u) (ho : w.ownsRow base 3 1 u n xs) (hat : v'.ownBlock = v.ownBlock ∨ v'.ownBlock = some (w.heap.size + 1)) : Apart v' u := by
  intro k hk hk'
  rcases hat with e | e
  · exact h k (e ▸ hk) hk'
  · rw [e] at hk
    simp only [Option.some.injEq] at hk
    have := own_lt ho k hk'
    omega
theorem keep_other {w w1 : World} {v u : Value} {base n : Nat} {xs : List Value} (h : Apart v u) (ho : w.ownsRow base 3 1 u n xs) (hg : w.grownBy w1 v.ownBlock) : w1.ownsRow base 3 1 u n xs := by
  refine ho.kept hg ?_
  cases hu : u.ownBlock with
  | none => exact .inl rfl
  | some k => exact .inr (fun e => h k e.symm hu)

theorem Mk.kept {w w1 : World} {base r : Nat} {v0 v1 v2 v : Value} {x0 x1 x2 : List Int} (h : Mk w base r v0 v1 v2 x0 x1 x2) {o : Obj} (hv : v = v0 ∨ v = v1 ∨ v = v2) (hg : (w.alloc o).grownBy w1 v.ownBlock) : w1.heap[r]? = some (.cells #[v0, v1, v2, .int .i64 0] 40 (0, 0)) := by
  have h1 := (Below.heap_alloc w o r (Array.getElem?_eq_some_iff.1 h.d).1).trans h.d
  have hne : some r ≠ v.ownBlock := by
    intro e
    rcases hv with rfl | rfl | rfl
    · exact own_ne_block h.o0 h.d (by decide) e.symm
    · exact own_ne_block h.o1 h.d (by decide) e.symm
    · exact own_ne_block h.o2 h.d (by decide) e.symm
  rw [hg.block r (Array.getElem?_eq_some_iff.1 h1).1 hne]
  exact h1

/-- The world behind an append of y to the list in field j of the reference, and the store of what it came to. -/
theorem Mk.put0 {w w1 : World} {base r : Nat} {v0 v1 v2 v : Value} {x0 x1 x2 : List Int} (h : Mk w base r v0 v1 v2 x0 x1 x2) (y : Int)
    (ho : w1.ownsRow base 3 1 v (x0.length + 1) (x0.map (Value.int .i64) ++ [.int .i64 y])) (hg : (w.alloc (.cells #[.int .i64 y] 3)).grownBy w1 v0.ownBlock) (hat : v.ownBlock = v0.ownBlock ∨ v.ownBlock = some (w.heap.size + 1)) :
    Mk (w1.setCell ⟨r, 0, none⟩ v) base r v v1 v2 (x0 ++ [y]) x1 x2 := by
  have hr : w1.heap[r]? = some (.cells #[v0, v1, v2, .int .i64 0] 40 (0, 0)) := by
    have h1 := (Below.heap_alloc w (.cells #[.int .i64 y] 3) r (Array.getElem?_eq_some_iff.1 h.d).1).trans h.d
    rw [hg.block r (Array.getElem?_eq_some_iff.1 h1).1 (fun e => own_ne_block h.o0 h.d (by decide) e.symm)]
    exact h1
  have ho1 := keep_other h.a01 (h.o1.alloc (.cells #[.int .i64 y] 3)) hg
  have ho2 := keep_other h.a02 (h.o2.alloc (.cells #[.int .i64 y] 3)) hg
  refine ⟨?_, ?_, own_set ho1 (own_ne_block ho1 hr (by decide)) _, own_set ho2 (own_ne_block ho2 hr (by decide)) _, apart_next h.a01 h.o1 hat, apart_next h.a02 h.o2 hat, h.a12⟩
  · have := set_block (cs := [v0, v1, v2, .int .i64 0]) hr 0 v
    simpa using this
  · refine own_set ?_ (own_ne_block ho hr (by decide)) _
    simpa using ho
theorem Mk.put1 {w w1 : World} {base r : Nat} {v0 v1 v2 v : Value} {x0 x1 x2 : List Int} (h : Mk w base r v0 v1 v2 x0 x1 x2) (y : Int)
    (ho : w1.ownsRow base 3 1 v (x1.length + 1) (x1.map (Value.int .i64) ++ [.int .i64 y])) (hg : (w.alloc (.cells #[.int .i64 y] 3)).grownBy w1 v1.ownBlock) (hat : v.ownBlock = v1.ownBlock ∨ v.ownBlock = some (w.heap.size + 1)) :
    Mk (w1.setCell ⟨r, 1, none⟩ v) base r v0 v v2 x0 (x1 ++ [y]) x2 := by
  have hr : w1.heap[r]? = some (.cells #[v0, v1, v2, .int .i64 0] 40 (0, 0)) := by
    have h1 := (Below.heap_alloc w (.cells #[.int .i64 y] 3) r (Array.getElem?_eq_some_iff.1 h.d).1).trans h.d
    rw [hg.block r (Array.getElem?_eq_some_iff.1 h1).1 (fun e => own_ne_block h.o1 h.d (by decide) e.symm)]
    exact h1
  have ho0 := keep_other h.a01.symm (h.o0.alloc (.cells #[.int .i64 y] 3)) hg
  have ho2 := keep_other h.a12 (h.o2.alloc (.cells #[.int .i64 y] 3)) hg
  refine ⟨?_, own_set ho0 (own_ne_block ho0 hr (by decide)) _, ?_, own_set ho2 (own_ne_block ho2 hr (by decide)) _, (apart_next h.a01.symm h.o0 hat).symm, h.a02, apart_next h.a12 h.o2 hat⟩
  · have := set_block (cs := [v0, v1, v2, .int .i64 0]) hr 1 v
    simpa using this
  · refine own_set ?_ (own_ne_block ho hr (by decide)) _
    simpa using ho
theorem Mk.put2 {w w1 : World} {base r : Nat} {v0 v1 v2 v : Value} {x0 x1 x2 : List Int} (h : Mk w base r v0 v1 v2 x0 x1 x2) (y : Int)
    (ho : w1.ownsRow base 3 1 v (x2.length + 1) (x2.map (Value.int .i64) ++ [.int .i64 y])) (hg : (w.alloc (.cells #[.int .i64 y] 3)).grownBy w1 v2.ownBlock) (hat : v.ownBlock = v2.ownBlock ∨ v.ownBlock = some (w.heap.size + 1)) :
    Mk (w1.setCell ⟨r, 2, none⟩ v) base r v0 v1 v x0 x1 (x2 ++ [y]) := by
  have hr : w1.heap[r]? = some (.cells #[v0, v1, v2, .int .i64 0] 40 (0, 0)) := by
    have h1 := (Below.heap_alloc w (.cells #[.int .i64 y] 3) r (Array.getElem?_eq_some_iff.1 h.d).1).trans h.d
    rw [hg.block r (Array.getElem?_eq_some_iff.1 h1).1 (fun e => own_ne_block h.o2 h.d (by decide) e.symm)]
    exact h1
  have ho0 := keep_other h.a02.symm (h.o0.alloc (.cells #[.int .i64 y] 3)) hg
  have ho1 := keep_other h.a12.symm (h.o1.alloc (.cells #[.int .i64 y] 3)) hg
  refine ⟨?_, own_set ho0 (own_ne_block ho0 hr (by decide)) _, own_set ho1 (own_ne_block ho1 hr (by decide)) _, ?_, h.a01, (apart_next h.a02.symm h.o0 hat).symm, (apart_next h.a12.symm h.o1 hat).symm⟩
  · have := set_block (cs := [v0, v1, v2, .int .i64 0]) hr 2 v
    simpa using this
  · refine own_set ?_ (own_ne_block ho hr (by decide)) _
    simpa using ho
theorem grown_put {w w1 : World} {B r : Nat} {o : Obj} {v0 : Value} {base n : Nat} {xs : List Value} {w0 : World} (h : Below B w0 w) (hB : B ≤ w.heap.size) (hr : B ≤ r) (hg : (w.alloc o).grownBy w1 v0.ownBlock) (ho : w.ownsRow base 3 1 v0 n xs) (hbb : B ≤ base) (j : Nat) (v : Value) :
    Below B w0 (w1.setCell ⟨r, j, none⟩ v) :=
  (((h.alloc hB _).grown hg (by simp; omega) (fun k hk => Nat.le_trans hbb (own_ge ho k hk))).setCell hr _)

/-- append(v, y), v a list of whole numbers of the call's own. -/
theorem app_int {ops : Array Oper} {rest : List Oper} {o : Oper} {a : Act} {Q : Exit → Act → World → Prop} (hgd : o.guard = none) (s x : Operand)
    (ho : o.op = .call { callee := .builtin .append, args := #[s, x], argTypes := #[31, 31] }) (base : Nat) (W : World) (v : Value) (xs : List Int) (y : Int) (hs : a.eval s = v) (hx : a.eval x = .slice (some ⟨W.heap.size, 0, none⟩) 1 1)
    (hown : W.ownsRow base 3 1 v xs.length (xs.map (Value.int .i64))) (hlen : xs.length ≤ 1000000) (hbase : base ≤ W.heap.size)
    (h : ∀ v' w', w'.ownsRow base 3 1 v' (xs.length + 1) (xs.map (Value.int .i64) ++ [.int .i64 y]) → (W.alloc (.cells #[.int .i64 y] 3)).grownBy w' v.ownBlock → (v'.ownBlock = v.ownBlock ∨ v'.ownBlock = some (W.heap.size + 1)) → wpList Try.prog ops Q rest (a.put o.dst v') w') :
    wpList Try.prog ops Q (o :: rest) a (W.alloc (.cells #[.int .i64 y] 3)) := by
  obtain ⟨i0, hi, hz0, hz1, hz2⟩ := info_parts Try.info3
  exact wpList_append_own_at _ hgd s x 31 ho base 3 i0 (.int .i64 0) 1 8 Try.underlying31 hi hz0 hz1 hz2 rfl (by decide) v xs.length _ hs (hown.alloc _) ⟨W.heap.size, 0, none⟩ 1 1 [.int .i64 y] hx rfl
    (World.news_of_block (cs := #[.int .i64 y]) (t := 3) (fr := (0, 0)) (heap_alloc_new W _)) (by simp [Value.oneCell']) (by unfold maxLen; omega) (by omega) (by simp; omega) fun v' w' h1 h2 _ h4 => h v' w' h1 h2 (by simpa using h4)

theorem size_set (w : World) (p : Addr) (u : Value) : (w.setCell p u).heap.size = w.heap.size := by simp [World.setCell]

def made (n : Int) (k : Nat) : List Int := List.replicate k n
theorem made_next (n : Int) (k : Nat) : made n k ++ [n] = made n (k + 1) := by simp [made, List.replicate_succ']
theorem made_length (n : Int) (k : Nat) : (made n k).length = k := by simp [made]

def RefNewPost (n : Nat) (w : World) (e : Ending) (w' : World) : Prop :=
  ∃ v0 v1 v2, e = .returned (.pointer (some ⟨w.heap.size, 0, none⟩)) ∧ Mk w' (w.heap.size + 1) w.heap.size v0 v1 v2 (made (-1) n) (made 0 n) (made 0 n) ∧ Below w.heap.size w w'

set_option maxHeartbeats 1000000 in
set_option maxRecDepth 100000 in
theorem refnew_ok (n : Nat) (w : World) (h16 : n ≤ 16) : Calls Try.prog 13 #[.int .i64 n] w (RefNewPost n w) := by
  obtain ⟨i0, hi, hz0, hz1, hz2⟩ := info_parts Try.info3
  go_enter Try.func13, Try.ntmps13
  go_wp2_with fail
  go_loopw [4] (fun v4 wr => ∃ k : Nat, k ≤ n ∧ v4 = .int .i64 k ∧ Aside (∃ v0 v1 v2, Mk wr (w.heap.size + 1) w.heap.size v0 v1 v2 (made (-1) k) (made 0 k) (made 0 k) ∧ Below w.heap.size w wr ∧ w.heap.size + 1 ≤ wr.heap.size)) (fun v _ => n - (intOf v).toNat)
  case atStart =>
    refine ⟨0, by omega, rfl, ⟨_, _, _, ⟨heap_alloc_new w _, ?_, ?_, ?_, ?_, ?_, ?_⟩, (Below.refl _ _).alloc (Nat.le_refl _) _, by simp⟩⟩
    · exact ⟨by simp [made], .inl ⟨rfl, rfl⟩⟩
    · exact ⟨by simp [made], .inl ⟨rfl, rfl⟩⟩
    · exact ⟨by simp [made], .inl ⟨rfl, rfl⟩⟩
    all_goals intro k hk; simp [Value.ownBlock] at hk
  case round =>
    obtain ⟨k, hk, rfl, HR⟩ := hrel
    obtain ⟨v0, v1, v2, hM, hB, hs⟩ := HR.out
    by_cases hlt : k < n
    · have hc0 := cell_of_row _ _ 0 _ _ _ hM.d
      have hf0 := frozen_block hM.d 0
      have HM := Aside.mk hM
      have HB := Aside.mk hB
      have HS := Aside.mk hs
      clear hM hB hs HR
      have hb0 : w.heap.size + 1 ≤ wr.heap.size := HS.out
      go_wp2_with (at_builtin; refine app_int rfl (.tmp 16) (.tmp 17) rfl (w.heap.size + 1) wr v0 (made (-1) k) (-1) rfl rfl HM.out.o0 ?c1 hb0 ?_)
      case c1 => rw [made_length]; omega
      intro x0 w1 ho hg hat
      obtain ⟨g0, cap0, rfl⟩ := own_some ho (by omega)
      have HM1 := Aside.mk (HM.out.put0 (-1) ho hg hat)
      have HB1 := Aside.mk (grown_put HB.out (by first | omega | (simp only [size_set]; omega)) (Nat.le_refl w.heap.size) hg HM.out.o0 (Nat.le_succ _) 0 (.slice (some ⟨g0, 0, none⟩) ((made (-1) k).length + 1) cap0))
      have hgs := hg.size
      rw [World.size_alloc] at hgs
      try simp only [size_set] at hgs
      have hbr := HM.out.kept (.inl rfl) hg
      have hc0 := cell_of_row _ _ 0 _ _ _ hbr
      have hf0 := frozen_block hbr 0
      have hc1 := cell_of_row _ _ 1 _ _ _ hbr
      have hb1 : w.heap.size + 1 ≤ (w1.setCell ⟨w.heap.size, 0, none⟩ (.slice (some ⟨g0, 0, none⟩) ((made (-1) k).length + 1) cap0)).heap.size := by simp only [size_set]; omega
      clear ho hg hat hbr
      go_wp2_with (at_builtin; refine app_int rfl (.tmp 25) (.tmp 26) rfl (w.heap.size + 1) (w1.setCell ⟨w.heap.size, 0, none⟩ (.slice (some ⟨g0, 0, none⟩) ((made (-1) k).length + 1) cap0)) v1 (made 0 k) 0 rfl ?c2 HM1.out.o1 ?c3 hb1 ?_)
      case c2 => simp only [size_set]; rfl
      case c3 => rw [made_length]; omega
      intro x1 w2 ho hg hat
      obtain ⟨g1, cap1, rfl⟩ := own_some ho (by omega)
      have HM2 := Aside.mk (HM1.out.put1 0 ho hg (by simp only [size_set] at hat ⊢; exact hat))
      have HB2 := Aside.mk (grown_put HB1.out (by simp only [size_set]; omega) (Nat.le_refl w.heap.size) hg HM1.out.o1 (Nat.le_succ _) 1 (.slice (some ⟨g1, 0, none⟩) ((made 0 k).length + 1) cap1))
      have hgs2 := hg.size
      rw [World.size_alloc] at hgs2
      simp only [size_set] at hgs2
      have hbr := HM1.out.kept (.inr (.inl rfl)) hg
      have hc1 := cell_of_row _ _ 1 _ _ _ hbr
      have hf1 := frozen_block hbr 1
      have hc2 := cell_of_row _ _ 2 _ _ _ hbr
      have hb2 : w.heap.size + 1 ≤ (w2.setCell ⟨w.heap.size, 1, none⟩ (.slice (some ⟨g1, 0, none⟩) ((made 0 k).length + 1) cap1)).heap.size := by simp only [size_set]; omega
      clear ho hg hat hbr
      go_wp2_with (at_builtin; refine app_int rfl (.tmp 34) (.tmp 35) rfl (w.heap.size + 1) (w2.setCell ⟨w.heap.size, 1, none⟩ (.slice (some ⟨g1, 0, none⟩) ((made 0 k).length + 1) cap1)) v2 (made 0 k) 0 rfl ?c4 HM2.out.o2 ?c5 hb2 ?_)
      case c4 => simp only [size_set]; rfl
      case c5 => rw [made_length]; omega
      intro x2 w3 ho hg hat
      obtain ⟨g2, cap2, rfl⟩ := own_some ho (by omega)
      have HM3 := Aside.mk (HM2.out.put2 0 ho hg (by simp only [size_set] at hat ⊢; exact hat))
      have HB3 := Aside.mk (grown_put HB2.out (by simp only [size_set]; omega) (Nat.le_refl w.heap.size) hg HM2.out.o2 (Nat.le_succ _) 2 (.slice (some ⟨g2, 0, none⟩) ((made 0 k).length + 1) cap2))
      have hgs3 := hg.size
      rw [World.size_alloc] at hgs3
      simp only [size_set] at hgs3
      have hbr := HM2.out.kept (.inr (.inr rfl)) hg
      have hc2 := cell_of_row _ _ 2 _ _ _ hbr
      have hf2 := frozen_block hbr 2
      clear ho hg hat hbr
      go_wp2_with fail
      go_roundw
      case rel =>
        have hm := HM3.out
        rw [made_next, made_next] at hm
        exact ⟨k + 1, by omega, by go_num, ⟨_, _, _, hm, HB3.out, by simp only [size_set]; omega⟩⟩
      case measure => simp [intOf]; omega
    · have : k = n := by omega
      subst this
      clear hM hB hs
      go_wp2_with fail
      go_ret
      obtain ⟨v0, v1, v2, hM, hB, hs⟩ := HR.out
      exact ⟨_, _, _, rfl, hM, hB⟩
end Go.Proofs.Ytojgjjgfbbejmaa
