/- What Long, Expects and ints come to. -/
import Derived.Test.YtojgjjgfbbejmaaFeed
import Derived.Laws.AppendOwn
namespace Go.Proofs.Ytojgjjgfbbejmaa
open Go.RowKit
set_option linter.unusedVariables false
set_option linter.unusedSimpArgs false

set_option maxHeartbeats 400000 in
set_option maxRecDepth 100000 in
theorem long_bad (g B : Nat) (l : List One) (now i : Int) (w : World) (hd : IsDet w g B l now) (hl : l.length ≤ 16) (h : i < 0 ∨ (l.length : Int) ≤ i) :
    Calls Try.prog 10 #[.pointer (some ⟨g, 0, none⟩), .int .i64 i] w fun e w' => e = .returned (.tuple #[.int .i64 0, .int .i64 1]) ∧ w' = w := by
  have hc0 := cell_of_row _ _ 0 _ _ _ hd.d
  clear hd
  by_cases h1 : i < 0
  · clear h
    go_enter Try.func10, Try.ntmps10
    go_wp2
    go_ret2
    exact ⟨rfl, rfl⟩
  · have h2 : (l.length : Int) ≤ i := by omega
    clear h
    go_enter Try.func10, Try.ntmps10
    go_wp2
    go_ret2
    exact ⟨rfl, rfl⟩

set_option maxHeartbeats 400000 in
set_option maxRecDepth 100000 in
theorem long_ok (g B : Nat) (l : List One) (now : Int) (i : Nat) (w : World) (hd : IsDet w g B l now) (hl : l.length ≤ 16) (h : i < l.length) :
    Calls Try.prog 10 #[.pointer (some ⟨g, 0, none⟩), .int .i64 i] w fun e w' => e = .returned (.tuple #[.int .i64 (l.getD i z3).2.2, .int .i64 0]) ∧ w' = w := by
  have hc0 := cell_of_row _ _ 0 _ _ _ hd.d
  obtain ⟨-, -, hc2⟩ := cell_flatD hd.s i h
  clear hd
  generalize (l.getD i z3).2.2 = q at *
  go_enter Try.func10, Try.ntmps10
  go_wp2
  go_ret2
  exact ⟨rfl, rfl⟩

theorem Try.info3 : (Try.prog.info? 3).map (fun i => (i.zero, i.size, i.bytes)) = some (some (.int .i64 0), 1, 8) := by kernel_rfl

def exps (l : List One) (k : Nat) : List Value := (l.take k).map fun s => .int .i64 s.1
theorem exps_next (l : List One) (k : Nat) (h : k < l.length) : exps l (k + 1) = exps l k ++ [.int .i64 l[k].1] := by
  simp only [exps, List.take_succ_eq_append_getElem h, List.map_append, List.map_cons, List.map_nil]
theorem exps_length (l : List One) (k : Nat) (h : k ≤ l.length) : (exps l k).length = k := by simp [exps]; omega

theorem IsDet.below {w w' : World} {g B : Nat} {l : List One} {now : Int} (h : IsDet w g B l now) (hb : Below w.heap.size w w') : IsDet w' g B l now :=
  ⟨(hb.block _ (Array.getElem?_eq_some_iff.1 h.d).1).trans h.d, (hb.block _ (Array.getElem?_eq_some_iff.1 h.s).1).trans h.s⟩
theorem own_ge {w : World} {base : Nat} {e : TypeId} {size n : Nat} {v : Value} {xs : List Value} (h : w.ownsRow base e size v n xs) (k : Nat) (hk : v.ownBlock = some k) : base ≤ k := by
  rcases h.2 with ⟨rfl, -⟩ | ⟨g, cap, cur, rfl, hb, -⟩
  · simp [Value.ownBlock] at hk
  · simp only [Value.ownBlock, Option.some.injEq] at hk; omega

def ExpPost (l : List One) (w : World) (e : Ending) (w' : World) : Prop :=
  ∃ v, e = .returned v ∧ w'.ownsRow w.heap.size 3 1 v l.length (exps l l.length) ∧ Below w.heap.size w w'

set_option maxHeartbeats 400000 in
set_option maxRecDepth 100000 in
theorem expects_ok (g B : Nat) (l : List One) (now : Int) (w : World) (hd : IsDet w g B l now) (hl : l.length ≤ 16) :
    Calls Try.prog 12 #[.pointer (some ⟨g, 0, none⟩)] w (ExpPost l w) := by
  obtain ⟨i0, hi, hz0, hz1, hz2⟩ := info_parts Try.info3
  have HD := Aside.mk hd
  have hc0 := cell_of_row _ _ 0 _ _ _ hd.d
  clear hd
  go_enter Try.func12, Try.ntmps12
  go_wp2
  go_loopw [3, 11] (fun v3 v11 wr => ∃ k : Nat, k ≤ l.length ∧ v11 = .int .i64 k ∧ Aside (IsDet wr g B l now ∧ Below w.heap.size w wr ∧ wr.ownsRow w.heap.size 3 1 v3 k (exps l k))) (fun _ v _ => l.length - (intOf v).toNat)
  case atStart => exact ⟨0, Nat.zero_le _, rfl, ⟨HD.out, Below.refl _ _, ⟨by simp [exps], .inl ⟨rfl, rfl⟩⟩⟩⟩
  case round =>
    obtain ⟨k, hk, rfl, HK⟩ := hrel
    obtain ⟨hd, hF, hown⟩ := HK.out
    by_cases hlt : k < l.length
    · obtain ⟨ha0, ha1, ha2⟩ := cell_flat hd.s k hlt
      have HX := Lib.hid (exps_next l k hlt)
      have hown' := Aside.mk hown
      clear hd hF hown
      generalize l[k].1 = e at *
      generalize l[k].2.1 = u at *
      generalize l[k].2.2 = q at *
      go_wp2_with (at_builtin; refine wpList_append_own _ rfl (.tmp 15) (.tmp 18) 31 rfl w.heap.size 3 i0 (.int .i64 0) 1 8 Try.underlying31 hi hz0 hz1 hz2 rfl (by decide) u3 k (exps l k) rfl ((hown'.out.alloc _).alloc _) ⟨wr.heap.size + 1, 0, none⟩ 1 1 [.int .i64 e] rfl rfl ?c1 ?c2 ?c3 ?c4 ?c5 ?_)
      case c1 => exact World.news_of_block (cs := #[.int .i64 e]) (t := 3) (fr := (0, 0)) (by simpa using heap_alloc_new (wr.alloc (.cells #[.int .i64 e, .int .i64 u, .int .i64 q] 47)) (.cells #[.int .i64 e] 3))
      case c2 => simp [Value.oneCell']
      case c3 => unfold maxLen; omega
      case c4 => omega
      case c5 => have := (HK.out.2.1).size; simp; omega
      intro v1 w1 ho hg _
      have HO := Aside.mk ho
      have HB : Aside (Below w.heap.size w w1) := ⟨(((HK.out.2.1).alloc (HK.out.2.1).size _).alloc (by have := (HK.out.2.1).size; simp; omega) _).grown hg (by have := (HK.out.2.1).size; simp; omega) (own_ge hown'.out)⟩
      clear ho hg
      go_wp2
      go_roundw
      case rel => exact ⟨k + 1, by omega, by go_num, ⟨HD.out.below HB.out, HB.out, by rw [HX.out]; exact HO.out⟩⟩
      case measure => simp [intOf]; omega
    · have : k = l.length := by omega
      subst this
      clear hd hF hown
      go_wp2
      go_ret
      exact ⟨_, rfl, HK.out.2.2, HK.out.2.1⟩

theorem exps_all (l : List One) : exps l l.length = l.map fun s => .int .i64 s.1 := by simp [exps]

/-- Two lists of whole numbers that are the same. -/
theorem own_ints {w : World} {base : Nat} {v : Value} {xs : List Int} (h : w.ownsRow base 3 1 v xs.length (xs.map (Value.int .i64))) (hne : 1 ≤ xs.length) :
    ∃ g cap, v = .slice (some ⟨g, 0, none⟩) xs.length cap ∧ base ≤ g ∧ ∀ i (hi : i < xs.length), w.cell? ⟨g, i, none⟩ = some (.int .i64 xs[i]) := by
  obtain ⟨h1, h2⟩ := h
  rcases h2 with ⟨-, h0⟩ | ⟨g, cap, cur, rfl, hb, hh, hc, hcap, hs, ht⟩
  · omega
  · refine ⟨g, cap, rfl, hb, fun i hi => ?_⟩
    rw [cell_of_row w g i cur 3 _ hh]
    have h3 : (cur.toList.take (xs.length * 1))[i]? = some (.int .i64 xs[i]) := by rw [ht]; simp [hi]
    rw [List.getElem?_take, if_pos (by omega)] at h3
    simpa using h3

set_option maxHeartbeats 400000 in
set_option maxRecDepth 100000 in
theorem ints_same (g1 g2 c1 c2 : Nat) (xs : List Int) (w : World) (hl : xs.length ≤ 100) (h1 : ∀ i (hi : i < xs.length), w.cell? ⟨g1, i, none⟩ = some (.int .i64 xs[i])) (h2 : ∀ i (hi : i < xs.length), w.cell? ⟨g2, i, none⟩ = some (.int .i64 xs[i])) :
    Calls Try.prog 11 #[.slice (some ⟨g1, 0, none⟩) xs.length c1, .slice (some ⟨g2, 0, none⟩) xs.length c2] w fun e w' => e = .returned (.bool true) ∧ ∃ n, w' = w.drewN n := by
  have H1 := Aside.mk h1
  have H2 := Aside.mk h2
  clear h1 h2
  go_enter Try.func11, Try.ntmps11
  go_wp2
  go_loopw [5] (fun v5 wr => ∃ k : Nat, k ≤ xs.length ∧ v5 = .int .i64 k ∧ Aside (∃ m, wr = w.drewN m)) (fun v _ => xs.length - (intOf v).toNat)
  case atStart => exact ⟨0, Nat.zero_le _, rfl, ⟨0, rfl⟩⟩
  case round =>
    obtain ⟨k, hk, rfl, HK⟩ := hrel
    obtain ⟨m, rfl⟩ := HK.out
    clear HK
    by_cases hlt : k < xs.length
    · have ha := H1.out k hlt
      have hb := H2.out k hlt
      generalize xs[k] = x at *
      go_wp2
      go_quiet (fail)
      go_wp2
      go_roundw
      case rel => exact ⟨k + 1, by omega, by go_num, ⟨_, rfl⟩⟩
      case measure => simp [intOf]; omega
    · go_wp2
      go_ret
      exact ⟨rfl, _, rfl⟩
end Go.Proofs.Ytojgjjgfbbejmaa
