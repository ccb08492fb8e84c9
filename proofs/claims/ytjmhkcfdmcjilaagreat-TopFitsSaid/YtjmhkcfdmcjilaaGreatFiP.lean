/-
  Walks: Ends and Right of chapter 9's reference, ferruletop.inside.
-/
import Derived.Test.YtjmhkcfdmcjilaaGreatFiJ
import Derived.Test.YtjmhkcfdmcjilaaGreatFiK
set_option linter.unusedVariables false
set_option linter.unusedSimpArgs false
namespace Go.Proofs.YtjmhkcfdmcjilaaGreat
namespace Fi
open Go.RowKit Ai

set_option maxHeartbeats 1000000 in
set_option maxRecDepth 100000 in
theorem rright_ok (w : World) (c lba n : Int) (hc : 0 ≤ c ∧ c ≤ 512) :
    Calls Tryz.prog 13 #[.int .i64 c, .int .i64 lba, .int .i64 n] w fun e w' => e = .returned (.bool (rightR c lba n)) ∧ w' = w := by
  obtain ⟨r, hr⟩ : ∃ r, r = rightR c lba n := ⟨_, rfl⟩
  rw [← hr]
  have HR := Ai.Aside.mk hr
  clear hr
  by_cases h1 : 1 ≤ n
  · by_cases h2 : n ≤ c
    · by_cases h3 : 0 ≤ lba
      · go_enter Tryz.func13, Tryz.ntmps13
        go_wp2_with fail
        go_ret
        refine ⟨ret_bool ?_, rfl⟩
        rw [HR.out, rightR]
        apply decide_eq_decide.2
        omega
      · go_enter Tryz.func13, Tryz.ntmps13
        go_wp2_with fail
        go_ret
        refine ⟨ret_bool ?_, rfl⟩
        rw [HR.out, rightR]
        symm
        apply decide_eq_false
        omega
    · go_enter Tryz.func13, Tryz.ntmps13
      go_wp2_with fail
      go_ret
      refine ⟨ret_bool ?_, rfl⟩
      rw [HR.out, rightR]
      symm
      apply decide_eq_false
      omega
  · go_enter Tryz.func13, Tryz.ntmps13
    go_wp2_with fail
    go_ret
    refine ⟨ret_bool ?_, rfl⟩
    rw [HR.out, rightR]
    symm
    apply decide_eq_false
    omega

def endsB (xs : List Op3) (c : Int) : Bool := match xs.getLast? with
  | none => true
  | some z => decide (z.l + z.n ≤ c)

set_option maxHeartbeats 4000000 in
set_option maxRecDepth 100000 in
theorem ends_ok (w : World) (A : Option Addr) (cap : Nat) (xs : List Op3) (hA : Acts3 w A xs) (hn : xs.length ≤ 512) (hb : ∀ x ∈ xs, 0 ≤ x.l ∧ 0 ≤ x.n ∧ x.l + x.n ≤ 512) (c : Int) :
    Calls Tryz.prog 9 #[.slice A xs.length cap, .int .i64 c] w fun e w' => e = .returned (.bool (endsB xs c)) ∧ ∃ q, w' = w.drewN q := by
  rcases List.eq_nil_or_concat xs with rfl | ⟨ys, z, rfl⟩
  · go_enter Tryz.func9, Tryz.ntmps9
    go_wp2_with fail
    go_quiet (fail)
    go_wp2_with fail
    go_ret
    exact ⟨rfl, _, rfl⟩
  · rw [List.concat_eq_append] at *
    obtain ⟨b, off, rfl, hlt, hcells⟩ := hA.2 (by simp)
    obtain ⟨hw0, hw1, hw2⟩ := hcells ys.length z (by simp)
    have hz := hb z (by simp)
    obtain ⟨k, hk⟩ : ∃ k, k = ys.length := ⟨_, rfl⟩
    have hlen : (ys ++ [z]).length = k + 1 := by rw [hk]; simp
    have hE : endsB (ys ++ [z]) c = decide (z.l + z.n ≤ c) := by unfold endsB; rw [List.getLast?_concat]
    have HE := Ai.Aside.mk hE
    rw [hlen] at hn ⊢
    rw [← hk] at hw0 hw1 hw2
    clear hcells hA hb hE hk hlen hw2
    have hs1 : IntKind.i64.wrap ((k : Int) + 1 - 1) = (k : Int) := by rw [IntKind.wrap_i64]; omega
    have hs2 : IntKind.i64.wrap (z.l + z.n) = z.l + z.n := by rw [IntKind.wrap_i64]; omega
    have hs3 : decide ((k : Int) + 1 = 0) = false := decide_eq_false (by omega)
    have hs4 : ((k : Int) + 1 == 0) = false := by rw [beq_eq_false_iff_ne]; omega
    have hs5 : (k : Int) < (k : Int) + 1 := by omega
    go_enter Tryz.func9, Tryz.ntmps9
    go_wp2_with fail
    go_quiet (fail)
    go_wp2_with fail
    go_ret
    exact ⟨by rw [HE.out]; rfl, _, rfl⟩

def insideB (xs : List Op3) (bp : Int) : Bool := xs.all fun x => decide (x.p ≤ bp - x.n)

set_option maxHeartbeats 4000000 in
set_option maxRecDepth 100000 in
theorem inside_ok (w : World) (A : Option Addr) (cap : Nat) (xs : List Op3) (hA : Acts3 w A xs) (hn : xs.length ≤ 512) (hb : ∀ x ∈ xs, 0 ≤ x.n ∧ x.n ≤ 512) (c : Cfg) (hc : c.Span) :
    Calls Tryz.prog 10 #[.slice A xs.length cap, c.V] w fun e w' => e = .returned (.bool (insideB xs (c.b * c.p))) ∧ Below w.heap.size w w' := by
  obtain ⟨b, p, cc, s, m, x, f⟩ := c
  unfold Cfg.V
  simp only [Cfg.Span] at hc
  obtain ⟨bp, hbp⟩ : ∃ bp : Int, bp = b * p := ⟨_, rfl⟩
  have hbb : 0 ≤ bp ∧ bp ≤ 2048 := by
    rw [hbp]
    exact ⟨Int.mul_nonneg (by omega) (by omega), Int.le_trans (Int.mul_le_mul (by omega : b ≤ 64) (by omega : p ≤ 32) (by omega) (by omega)) (by decide)⟩
  have hw1 : IntKind.i64.wrap (b * p) = bp := by rw [← hbp, IntKind.wrap_i64]; omega
  obtain ⟨r, hr⟩ : ∃ r, r = insideB xs (b * p) := ⟨_, rfl⟩
  show Calls Tryz.prog 10 #[.slice A xs.length cap, .agg #[.int .i64 b, .int .i64 p, .int .i64 cc, .int .i64 s, .int .i64 m, .int .i64 x, .bool f]] w fun e w' => e = .returned (.bool (insideB xs (b * p))) ∧ Below w.heap.size w w'
  rw [← hr]
  rw [← hbp] at hr
  have HR := Ai.Aside.mk hr
  clear hr hbp
  have HA := Ai.Aside.mk hA
  have HBD := Ai.Aside.mk hb
  obtain ⟨n, hln⟩ : ∃ n, n = xs.length := ⟨_, rfl⟩
  rw [← hln] at hn ⊢
  have HLN := Ai.Aside.mk hln
  clear hA hb hln
  have HB0 := Ai.Aside.mk ((Below.refl w.heap.size w).alloc (Nat.le_refl _) (.cells #[.int .i64 b, .int .i64 p, .int .i64 cc, .int .i64 s, .int .i64 m, .int .i64 x, .bool f] 23))
  have HC := Ai.Aside.mk (show (w.alloc (.cells #[.int .i64 b, .int .i64 p, .int .i64 cc, .int .i64 s, .int .i64 m, .int .i64 x, .bool f] 23)).cell? ⟨w.heap.size, 0, none⟩ = some (.int .i64 b) ∧ (w.alloc (.cells #[.int .i64 b, .int .i64 p, .int .i64 cc, .int .i64 s, .int .i64 m, .int .i64 x, .bool f] 23)).cell? ⟨w.heap.size, 1, none⟩ = some (.int .i64 p) from
    ⟨by rw [cell_of_row _ _ _ _ _ _ (heap_alloc_new w _)]; rfl, by rw [cell_of_row _ _ _ _ _ _ (heap_alloc_new w _)]; rfl⟩)
  go_enter Tryz.func10, Tryz.ntmps10
  go_wp2_with fail
  go_loopw [5] (fun v5 wr => ∃ (k : Nat), k ≤ n ∧ v5 = .int .i64 k ∧ Ai.Aside ((xs.take k).all (fun x => decide (x.p ≤ bp - x.n)) = true ∧ ∃ q, wr = (w.alloc (.cells #[.int .i64 b, .int .i64 p, .int .i64 cc, .int .i64 s, .int .i64 m, .int .i64 x, .bool f] 23)).drewN q)) (fun v5 _ => n - (intOf v5).toNat)
  case atStart => exact ⟨0, by omega, rfl, ⟨by simp, 0, rfl⟩⟩
  case round =>
    obtain ⟨k, hk, rfl, HI⟩ := hrel
    obtain ⟨q0, hq0⟩ := HI.out.2
    subst hq0
    by_cases hlt : k < n
    · obtain ⟨y, hy⟩ : ∃ y, xs[k]? = some y := ⟨_, List.getElem?_eq_getElem (by rw [← HLN.out]; exact hlt)⟩
      obtain ⟨g, off, rfl, hg, hcells⟩ := HA.out.2 (by rw [← HLN.out]; omega)
      have hyb := HBD.out y (List.mem_of_getElem? hy)
      obtain ⟨hw0', hw1', hw2'⟩ := cells_at hcells hg HB0.out k y hy
      have HY := Ai.Aside.mk hy
      obtain ⟨W, hW⟩ : ∃ W, W = (w.alloc (.cells #[.int .i64 b, .int .i64 p, .int .i64 cc, .int .i64 s, .int .i64 m, .int .i64 x, .bool f] 23)).drewN q0 := ⟨_, rfl⟩
      have hv1 : W.cell? ⟨g, off + k * 3 + 1, none⟩ = some (.int .i64 y.n) := by rw [hW]; exact hw1'
      have hv2 : W.cell? ⟨g, off + k * 3 + 2, none⟩ = some (.int .i64 y.p) := by rw [hW]; exact hw2'
      have hv3 : W.cell? ⟨w.heap.size, 0, none⟩ = some (.int .i64 b) := by rw [hW]; exact HC.out.1
      have hv4 : W.cell? ⟨w.heap.size, 1, none⟩ = some (.int .i64 p) := by rw [hW]; exact HC.out.2
      have hs1 : IntKind.i64.wrap (bp - y.n) = bp - y.n := by rw [IntKind.wrap_i64]; omega
      have hs2 : (k : Int) < (n : Int) := by omega
      rw [← hW]
      have HW := Ai.Aside.mk hW
      clear hcells hg hy hw0' hw1' hw2' hW
      go_wp2_with fail
      go_quiet (fail)
      go_wp2_with fail
      · have hbad : bp - y.n < y.p := by omega
        go_ret
        refine ⟨ret_bool ?_, below_drewN (by rw [HW.out]; exact below_drewN HB0.out _) _⟩
        rw [HR.out]
        cases hq : insideB xs bp with
        | false => rfl
        | true =>
          have := List.all_eq_true.1 hq y (List.mem_of_getElem? HY.out)
          rw [decide_eq_true_eq] at this
          omega
      · have hgood : y.p ≤ bp - y.n := by omega
        go_roundw
        case rel => exact ⟨k + 1, by omega, by go_num, ⟨all_take HY.out HI.out.1 (by rw [decide_eq_true_eq]; exact hgood), drewN_trans ⟨q0, HW.out⟩ ⟨_, rfl⟩⟩⟩
        case measure => simp [intOf]; omega
    · have hkn : k = n := by omega
      subst hkn
      go_wp2_with fail
      go_ret
      refine ⟨ret_bool ?_, below_drewN HB0.out _⟩
      rw [HR.out, insideB, ← HI.out.1, HLN.out, List.take_length]
end Fi
end Go.Proofs.YtjmhkcfdmcjilaaGreat
