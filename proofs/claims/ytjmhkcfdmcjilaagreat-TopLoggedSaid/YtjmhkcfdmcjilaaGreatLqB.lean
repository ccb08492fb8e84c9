/-
  Walk: ferruleref9.Same of the same runs.
-/
import Derived.Test.YtjmhkcfdmcjilaaGreatLpN
set_option linter.unusedVariables false
set_option linter.unusedSimpArgs false
namespace Go.Proofs.YtjmhkcfdmcjilaaGreat
namespace Lo
open Go.RowKit Ai Fi

set_option maxHeartbeats 4000000 in
set_option maxRecDepth 100000 in
theorem rsame_ok (w : World) (A B : Option Addr) (cA cB : Nat) (xs : List Op3) (hA : Acts3 w A xs) (hB : Acts3 w B xs) (hn : xs.length ≤ 512) :
    Calls Tryz.prog 24 #[.slice A xs.length cA, .slice B xs.length cB] w (EqPost w true) := by
  have HA := Ai.Aside.mk hA
  have HB := Ai.Aside.mk hB
  obtain ⟨n, hn2⟩ : ∃ n, n = xs.length := ⟨_, rfl⟩
  rw [← hn2] at hn ⊢
  have HN := Ai.Aside.mk hn2
  clear hA hB hn2
  go_enter Tryz.func24, Tryz.ntmps24
  go_wp2_with fail
  go_loopw [5] (fun v5 wr => ∃ (k : Nat), k ≤ n ∧ v5 = .int .i64 k ∧ Ai.Aside (∃ q, wr = w.drewN q)) (fun v5 _ => n - (intOf v5).toNat)
  case atStart => exact ⟨0, by omega, rfl, ⟨0, rfl⟩⟩
  case round =>
    obtain ⟨k, hk, rfl, HR⟩ := hrel
    by_cases hlt : k < n
    · obtain ⟨x, hx⟩ : ∃ x, xs[k]? = some x := ⟨_, List.getElem?_eq_getElem (by rw [← HN.out]; exact hlt)⟩
      obtain ⟨b, off, rfl, hb, hcells⟩ := HA.out.2 (by rw [← HN.out]; omega)
      obtain ⟨b', off', rfl, hb', hcells'⟩ := HB.out.2 (by rw [← HN.out]; omega)
      obtain ⟨q, hq⟩ := HR.out
      have hBl : Below w.heap.size w wr := by rw [hq]; exact below_drewN (Below.refl _ _) q
      obtain ⟨hw0, hw1, hw2⟩ := cells_at hcells hb hBl k x hx
      obtain ⟨hv0, hv1, hv2⟩ := cells_at hcells' hb' hBl k x hx
      have HQ := Ai.Aside.mk hq
      clear hcells hcells' hb hb' hBl hx hq
      go_wp2_with fail
      go_quiet ((fail))
      go_wp2_with fail
      go_roundw
      case rel => exact ⟨k + 1, by omega, by go_num, ⟨drewN_trans ⟨_, HQ.out⟩ ⟨_, rfl⟩⟩⟩
      case measure => simp [intOf]; omega
    · obtain rfl : k = n := by omega
      go_wp2_with fail
      go_ret
      exact ⟨rfl, HR.out⟩
end Lo
end Go.Proofs.YtjmhkcfdmcjilaaGreat
