/-
  Walk: delta.Snapshot of runs in their form.
-/
import Derived.Test.YtjmhkcfdmcjilaaGreatFiD
import Derived.Deep.QuietTactic
import Derived.BigQuiet
set_option linter.unusedVariables false
set_option linter.unusedSimpArgs false
namespace Go.Proofs.YtjmhkcfdmcjilaaGreat
namespace Fi
open Go.RowKit Ai

/-- What a snapshot tells of runs behind a sector and a page. -/
def snapB : (lba phys : Int) → List Op3 → List Nat
  | _, _, [] => []
  | lba, phys, x :: r => (enc (x.l - lba).toNat ++ enc (x.n - 1).toNat ++ enc (zig (x.p - phys))) ++ snapB (x.l + x.n) (x.p + x.n) r

theorem below_drewN {B : Nat} {a w : World} (h : Below B a w) (n : Nat) : Below B a (w.drewN n) := ⟨h.os, h.tape, h.output, h.size, h.block⟩
theorem own_drewN {w : World} {base : Nat} {e : TypeId} {size n : Nat} {v : Value} {xs : List Value} (h : w.ownsRow base e size v n xs) (m : Nat) : (w.drewN m).ownsRow base e size v n xs := h

theorem snap_step {w W : World} {n k : Nat} {xs : List Op3} {pre E : List Nat} {lba phys lba' phys' : Int} {x : Op3} (h : enc n ++ snapB 0 0 xs = pre ++ snapB lba phys (xs.drop k))
    (hx : xs[k]? = some x) (hE : snapB lba phys (x :: xs.drop (k + 1)) = E ++ snapB lba' phys' (xs.drop (k + 1))) {v : Value} {m : Nat} (ho : W.ownsRow w.heap.size 5 1 v m (bytesV (pre ++ E))) (hb : Below w.heap.size w W) :
    enc n ++ snapB 0 0 xs = (pre ++ E) ++ snapB lba' phys' (xs.drop (k + 1)) ∧ W.ownsRow w.heap.size 5 1 v (pre ++ E).length (bytesV (pre ++ E)) ∧ Below w.heap.size w W := by
  have hm : (pre ++ E).length = m := by have := ho.1; simpa [bytesV] using this
  refine ⟨?_, by rw [hm]; exact ho, hb⟩
  rw [h, drop_of hx, hE, List.append_assoc]

set_option maxHeartbeats 4000000 in
set_option maxRecDepth 100000 in
theorem snapshot_ok (w : World) (A : Option Addr) (cap : Nat) (xs : List Op3) (hA : Acts3 w A xs) (hn : xs.length ≤ 512) (hf : okRuns xs) :
    Calls Tryz.prog 11 #[.slice A xs.length cap] w fun e w' => ∃ v', e = .returned (.tuple #[v', .int .i64 0]) ∧ Below w.heap.size w w' ∧
      w'.ownsRow w.heap.size 5 1 v' (enc xs.length ++ snapB 0 0 xs).length (bytesV (enc xs.length ++ snapB 0 0 xs)) := by
  have HCall := Aside.mk (form_ok w A cap xs hA hn hf)
  have HA := Aside.mk hA
  have HF := Aside.mk hf
  clear hA hf
  obtain ⟨n, hln⟩ : ∃ n, n = xs.length := ⟨_, rfl⟩
  rw [← hln] at hn
  rw [← hln] at HCall
  rw [← hln]
  have HLN := Aside.mk hln
  clear hln
  have hmod : (n : Int) % 18446744073709551616 = (n : Int) := by omega
  go_enter Tryz.func11, Tryz.ntmps11
  go_wp2_with (first | (go_at_call 44; go_loud (refine HCall.out.mono ?_; rintro e w1 ⟨rfl, hb1⟩; have HB := Aside.mk hb1; clear hb1)))
  clear HCall
  go_loopw [21] (fun v21 wr => ∃ (k : Nat), k ≤ n ∧ v21 = .int .i64 k ∧ Aside (Below w.heap.size w wr)) (fun v21 _ => n - (intOf v21).toNat)
  case atStart => exact ⟨0, by omega, rfl, HB⟩
  case round =>
    obtain ⟨k, hk, rfl, HR⟩ := hrel
    clear HB
    by_cases hlt : k < n
    · obtain ⟨x, hx⟩ : ∃ x, xs[k]? = some x := ⟨_, List.getElem?_eq_getElem (by rw [← HLN.out]; exact hlt)⟩
      obtain ⟨b, off, rfl, hb, hcells⟩ := HA.out.2 (by rw [← HLN.out]; omega)
      have hxf := HF.out.1 x (List.mem_of_getElem? hx)
      obtain ⟨hw0, hw1, hw2⟩ := cells_at hcells hb HR.out k x hx
      have HB2 := Aside.mk (HR.out.alloc HR.out.size (.cells #[.int .i64 x.l, .int .i64 x.n, .int .i64 x.p] 94))
      clear hcells hb hx
      go_wp2_with fail
      all_goals first
        | (exfalso; omega)
        | (go_roundw
           case rel => exact ⟨k + 1, by omega, by go_num, ⟨HB2.out⟩⟩
           case measure => simp [intOf]; omega)
    · have hkn : k = n := by omega
      subst hkn
      have HNIL := Aside.mk (World.ownsRow_nil wr 0 5 1)
      go_wp2_with (go_at_call 45; go_loud (refine (put_ok _ 0 0 (.slice none 0 0) [] k HNIL.out (by omega) (by omega)).mono ?_; rintro e w1 ⟨v1, rfl, hown1, hbel1⟩; have HO := Aside.mk (own_base hown1 HR.out.size); have HB := Aside.mk (HR.out.trans (hbel1.mono HR.out.size)); clear hown1 hbel1))
      clear HNIL HR
      go_loopw [6, 7, 8, 48] (fun v6 v7 v8 v48 wr => ∃ (j : Nat) (pre : List Nat) (lba phys : Int), j ≤ k ∧ v48 = .int .i64 j ∧ v7 = .int .i64 lba ∧ v8 = .int .i64 phys ∧ (0 ≤ lba ∧ lba ≤ 512 ∧ 0 ≤ phys ∧ phys ≤ 1050000) ∧ pre.length ≤ 10 + 30 * j ∧
        Aside (enc k ++ snapB 0 0 xs = pre ++ snapB lba phys (xs.drop j) ∧ (∀ x, xs[j]? = some x → lba ≤ x.l) ∧ wr.ownsRow w.heap.size 5 1 v6 pre.length (bytesV pre) ∧ Below w.heap.size w wr)) (fun _ _ _ v48 _ => k - (intOf v48).toNat)
      case atStart =>
        refine ⟨0, enc k, 0, 0, by omega, rfl, rfl, rfl, by omega, by have := enc10 k (by omega); omega, ⟨by simp, fun x hx => (HF.out.1 x (List.mem_of_getElem? hx)).1, by simpa using HO.out, HB.out⟩⟩
      case round =>
        obtain ⟨j, pre, lba, phys, hj, rfl, rfl, rfl, hbd, hpl, HR⟩ := hrel
        clear HO HB
        by_cases hlt : j < k
        · obtain ⟨x, hx⟩ : ∃ x, xs[j]? = some x := ⟨_, List.getElem?_eq_getElem (by rw [← HLN.out]; exact hlt)⟩
          have HX := Aside.mk hx
          obtain ⟨b, off, rfl, hb, hcells⟩ := HA.out.2 (by rw [← HLN.out]; omega)
          have hxf := HF.out.1 x (List.mem_of_getElem? hx)
          have hxl := HR.out.2.1 x hx
          obtain ⟨hw0, hw1, hw2⟩ := cells_at hcells hb HR.out.2.2.2 j x hx
          have HC := Aside.mk (OC.new wr x.l x.n x.p 94 (0, 0))
          have HB := Aside.mk (HR.out.2.2.2.alloc HR.out.2.2.2.size (.cells #[.int .i64 x.l, .int .i64 x.n, .int .i64 x.p] 94))
          have HO := Aside.mk (HR.out.2.2.1.alloc (.cells #[.int .i64 x.l, .int .i64 x.n, .int .i64 x.p] 94))
          have he1 := enc10 (x.l - lba).toNat (by omega)
          have he2 := enc10 (x.n - 1).toNat (by omega)
          have he3 := enc10 (zig (x.p - phys)) (zig_lt _ (by omega) (by omega))
          have hm1 : (x.l - lba) % 18446744073709551616 = x.l - lba := by omega
          have hm2 : (x.n - 1) % 18446744073709551616 = x.n - 1 := by omega
          clear hcells hb hx
          go_wp2_with (first | (go_at_call 46; go_loud (refine (putint_ok _ _ _ _ _ _ HO.out (by omega) (by omega) (by omega)).mono ?_; rintro e w1 ⟨v1, rfl, hown, hb1⟩; have HC1 := Aside.mk (HC.out.below hb1); have HO1 := Aside.mk (own_base hown HB.out.size); have HB1 := Aside.mk (HB.out.trans (hb1.mono HB.out.size)); clear HC HO HB hq0 hq1 hq2 hown hb1; have HC := HC1; have HO := HO1; have HB := HB1; clear HC1 HO1 HB1; obtain ⟨-, hq0, hq1, hq2⟩ := HC.out)) | (go_at_call 45; go_loud (refine (putI_ok _ _ _ _ _ _ HO.out (by omega) (by omega) (by omega)).mono ?_; rintro e w1 ⟨v1, rfl, hown, hb1⟩; have HC1 := Aside.mk (HC.out.below hb1); have HO1 := Aside.mk (own_base hown HB.out.size); have HB1 := Aside.mk (HB.out.trans (hb1.mono HB.out.size)); clear HC HO HB hown hb1; (try clear hq0 hq1 hq2); have HC := HC1; have HO := HO1; have HB := HB1; clear HC1 HO1 HB1; obtain ⟨-, hq0, hq1, hq2⟩ := HC.out)))
          have hs1 : IntKind.i64.wrap (x.l + x.n) = x.l + x.n := by rw [IntKind.wrap_i64]; omega
          have hs2 : IntKind.i64.wrap (x.p + x.n) = x.p + x.n := by rw [IntKind.wrap_i64]; omega
          go_quiet (fail)
          have R := snap_step (W := _) HR.out.1 HX.out (by rw [snapB]) (by simpa only [List.append_assoc] using HO.out) HB.out
          have RN := Aside.mk (show ∀ y, xs[j + 1]? = some y → x.l + x.n ≤ y.l from fun y hy => by have := (HF.out.2 j x y HX.out hy).1; omega)
          have R2 := Aside.mk R
          clear R
          go_wp2_with fail
          go_roundw
          case rel => exact ⟨j + 1, _, x.l + x.n, x.p + x.n, by omega, by go_num, rfl, rfl, by omega, by simp only [List.length_append]; omega, ⟨R2.out.1, RN.out, own_drewN R2.out.2.1 _, below_drewN R2.out.2.2 _⟩⟩
          case measure => simp [intOf]; omega
        · have hjk : j = k := by omega
          subst hjk
          go_wp2_with fail
          go_ret2
          refine ⟨_, rfl, HR.out.2.2.2, ?_⟩
          have e : enc j ++ snapB 0 0 xs = pre := by
            rw [HR.out.1, HLN.out, List.drop_length, snapB, List.append_nil]
          rw [e]
          exact HR.out.2.2.1
end Fi
end Go.Proofs.YtjmhkcfdmcjilaaGreat
