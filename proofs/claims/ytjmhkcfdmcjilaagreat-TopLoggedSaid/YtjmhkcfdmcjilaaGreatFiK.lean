/-
  Walks of chapter 16's reference: Put of chapter 4, Pages of chapter 12, Up, l, Span.
-/
import Derived.Test.YtjmhkcfdmcjilaaGreatFiE
set_option linter.unusedVariables false
set_option linter.unusedSimpArgs false
namespace Go.Proofs.YtjmhkcfdmcjilaaGreat
namespace Fi
open Go.RowKit Ai

def Put4Post (w : World) (k : Nat) (e : Ending) (w' : World) : Prop := ∃ g cap n xs, e = .returned (.slice (some ⟨g, 0, none⟩) n cap) ∧ 1 ≤ n ∧ n ≤ k + 1 ∧ (∀ u ∈ xs, u.oneCell' = true) ∧
    w'.ownsRow w.heap.size 5 1 (.slice (some ⟨g, 0, none⟩) n cap) n xs ∧ Below w.heap.size w w'

set_option maxHeartbeats 1000000 in
set_option maxRecDepth 100000 in
theorem put4_small (x : Nat) (hx : x < 128) (k : Nat) (w : World) : Calls Tryz.prog 119 #[.int .u64 x] w (Put4Post w k) := by
  have HO := Aside.mk (World.ownsRow_lit (base := w.heap.size) (e := 5) (size := 1) w #[.int .u8 (x : Int)] 1 (Nat.le_refl _) (by decide) rfl)
  have HB := Aside.mk ((Below.refl w.heap.size w).alloc (Nat.le_refl _) (.cells #[.int .u8 (x : Int)] 5))
  have hlt : (x : Int) < 128 := by omega
  have hm : (x : Int) % 256 = x := by omega
  go_enter Tryz.func119, Tryz.ntmps119
  go_wp2_with fail
  go_ret
  exact ⟨_, _, 1, _, rfl, by omega, by omega, by simp [Value.oneCell'], HO.out, HB.out⟩

set_option maxHeartbeats 1000000 in
set_option maxRecDepth 100000 in
theorem put4_ok : ∀ (k x : Nat), x < 128 ^ (k + 1) → k ≤ 9 → x < 18446744073709551616 → ∀ w : World, Calls Tryz.prog 119 #[.int .u64 x] w (Put4Post w k) := by
  intro k
  induction k with
  | zero =>
    intro x hx hk hx2 w
    exact put4_small x (by simpa using hx) 0 w
  | succ k ih =>
    intro x hx hk hx2 w
    by_cases hx3 : x < 128
    · exact put4_small x hx3 (k + 1) w
    · have IH := Aside.mk (fun W => ih (x / 128) (by rw [Nat.pow_succ] at hx; omega) (by omega) (by omega) W)
      have hge : ¬ (x : Int) < 128 := by omega
      obtain ⟨y, hy⟩ : ∃ y : Nat, y = x / 128 := ⟨_, rfl⟩
      rw [← hy] at IH
      have hy2 : (x : Int) / 128 = (y : Int) := by omega
      have HL := Aside.mk (World.ownsRow_lit (base := w.heap.size) (e := 5) (size := 1) w #[.int .u8 ((x : Int) % 128 + 128)] 1 (Nat.le_refl _) (by decide) rfl)
      clear hx ih hy
      obtain ⟨i0, hi, hz0, hz1, hz2⟩ := info_parts info5
      go_enter Tryz.func119, Tryz.ntmps119
      go_wp2_with (first | (go_at_call 119; go_loud (refine (IH.out _).mono ?_; rintro e w1 ⟨g, cap, n, xs, rfl, hn1, hn2, hone, hown, hb⟩; have HO := Aside.mk hown; have HB := Aside.mk hb; have HONE := Aside.mk hone; clear hown hb hone)) | (at_builtin; go_loud (refine wpList_append_own _ rfl (.tmp 12) (.tmp 15) 37 rfl w.heap.size 5 i0 (.int .u8 0) 1 1 Tryz.underlying37 hi hz0 hz1 hz2 rfl (by decide) (.slice (some ⟨w.heap.size, 0, none⟩) 1 1) 1 [.int .u8 ((x : Int) % 128 + 128)] rfl (own_below HL.out HB.out) ⟨g, 0, none⟩ n cap xs rfl HO.out.1 (HO.out.cells rfl) HONE.out (by unfold maxLen; omega) (by omega) (by have := HB.out.size; simp at this; omega) ?_; intro v' w2 hown2 hgrow2 hnil2)))
      obtain ⟨g2, cap2, rfl⟩ : ∃ g2 cap2, v' = .slice (some ⟨g2, 0, none⟩) (1 + n) cap2 := by
        rcases hown2.2 with ⟨h1, h2⟩ | ⟨g', cap', cur, h1, _⟩
        · omega
        · exact ⟨g', cap', h1⟩
      have HO2 := Aside.mk hown2
      have HB2 := Aside.mk (show Below w.heap.size w w2 from ((((Below.refl w.heap.size w).alloc (Nat.le_refl _) (.cells #[.int .u8 ((x : Int) % 128 + 128)] 5)).trans (HB.out.mono (by simp)))).grown hgrow2 (by have := HB.out.size; simp at this; omega) (fun k hk => by simp [Value.ownBlock, Act.eval] at hk; omega))
      clear hown2 hgrow2 hnil2
      go_wp2_with fail
      go_ret
      refine ⟨g2, cap2, 1 + n, _, rfl, by omega, by omega, ?_, HO2.out, HB2.out⟩
      intro u hu
      simp only [List.mem_append, List.mem_singleton] at hu
      rcases hu with rfl | hu
      · rfl
      · exact HONE.out u hu

def LPost (w : World) (e : Ending) (w' : World) : Prop := ∃ r : Int, e = .returned (.int .i64 r) ∧ 1 ≤ r ∧ r ≤ 10 ∧ Below w.heap.size w w'

set_option maxHeartbeats 1000000 in
set_option maxRecDepth 100000 in
theorem l_ok (x : Int) (w : World) : Calls Tryz.prog 82 #[.int .i64 x] w (LPost w) := by
  obtain ⟨y, hy⟩ : ∃ y : Nat, x % 18446744073709551616 = (y : Int) := ⟨(x % 18446744073709551616).toNat, by omega⟩
  have hm : IntKind.u64.wrap x = (y : Int) := by rw [IntKind.wrap_u64]; exact hy
  have HP := Aside.mk (put4_ok 9 y (by omega) (by omega) (by omega) w)
  go_enter Tryz.func82, Tryz.ntmps82
  go_wp2_with (go_at_call 119; go_loud (refine HP.out.mono ?_; rintro e w1 ⟨g, cap, n, xs, rfl, hn1, hn2, hone, hown, hb⟩; have HB := Aside.mk hb; clear hown hb hone))
  go_ret
  exact ⟨n, rfl, by omega, by omega, HB.out⟩

def IntPost (w : World) (e : Ending) (w' : World) : Prop := ∃ r : Int, e = .returned (.int .i64 r) ∧ w' = w

set_option maxHeartbeats 1000000 in
set_option maxRecDepth 100000 in
theorem pages12_ok (x : Int) (w : World) : Calls Tryz.prog 83 #[.int .i64 x] w (IntPost w) := by
  go_enter Tryz.func83, Tryz.ntmps83
  go_wp2_with fail
  all_goals
    go_ret
    exact ⟨_, rfl, rfl⟩

set_option maxHeartbeats 1000000 in
set_option maxRecDepth 100000 in
theorem up16_ok (a b : Int) (hb : b ≠ 0) (w : World) : Calls Tryz.prog 84 #[.int .i64 a, .int .i64 b] w (IntPost w) := by
  go_enter Tryz.func84, Tryz.ntmps84
  go_wp2_with fail
  all_goals
    go_ret
    exact ⟨_, rfl, rfl⟩

/-- A Config. -/
structure Cfg where
  b : Int
  p : Int
  c : Int
  s : Int
  m : Int
  x : Int
  f : Bool

def Cfg.V (c : Cfg) : Value := .agg #[.int .i64 c.b, .int .i64 c.p, .int .i64 c.c, .int .i64 c.s, .int .i64 c.m, .int .i64 c.x, .bool c.f]

/-- The six numbers lie in their spans. -/
def Cfg.Span (c : Cfg) : Prop := 8 ≤ c.b ∧ c.b ≤ 64 ∧ 4 ≤ c.p ∧ c.p ≤ 32 ∧ 0 ≤ c.s ∧ c.s ≤ 4 ∧ 1 ≤ c.c ∧ c.c ≤ 512 ∧ 1 ≤ c.x ∧ c.x ≤ c.p ∧ c.x ≤ c.c ∧ 1 ≤ c.m ∧ c.m ≤ 512

def SpanPost (c : Cfg) (w : World) (e : Ending) (w' : World) : Prop := ∃ r : Bool, e = .returned (.bool r) ∧ (r = true ↔ c.Span) ∧ Below w.heap.size w w'

set_option maxHeartbeats 4000000 in
set_option maxRecDepth 100000 in
theorem span_ok (c : Cfg) (w : World) : Calls Tryz.prog 36 #[c.V] w (SpanPost c w) := by
  have HB := Aside.mk ((Below.refl w.heap.size w).alloc (Nat.le_refl _) (.cells #[.int .i64 c.b, .int .i64 c.p, .int .i64 c.c, .int .i64 c.s, .int .i64 c.m, .int .i64 c.x, .bool c.f] 23))
  unfold Cfg.V
  have HS := Aside.mk (show c.Span ↔ (8 ≤ c.b ∧ c.b ≤ 64 ∧ 4 ≤ c.p ∧ c.p ≤ 32 ∧ 0 ≤ c.s ∧ c.s ≤ 4 ∧ 1 ≤ c.c ∧ c.c ≤ 512 ∧ 1 ≤ c.x ∧ c.x ≤ c.p ∧ c.x ≤ c.c ∧ 1 ≤ c.m ∧ c.m ≤ 512) from Iff.rfl)
  go_enter Tryz.func36, Tryz.ntmps36
  go_wp2_with fail
  all_goals
    go_ret
    first
      | exact ⟨false, rfl, ⟨(fun h => by cases h), (fun h => by exfalso; rw [HS.out] at h; omega)⟩, HB.out⟩
      | exact ⟨_, rfl, by rw [HS.out, decide_eq_true_iff]; omega, HB.out⟩
end Fi
end Go.Proofs.YtjmhkcfdmcjilaaGreat
