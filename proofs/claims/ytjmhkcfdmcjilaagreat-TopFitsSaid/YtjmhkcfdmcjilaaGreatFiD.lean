/-
  Walks: span.Form and delta.Snapshot of runs in their form.
-/
import Derived.Test.YtjmhkcfdmcjilaaGreatFiB
/- Walk: delta.Record. -/
set_option linter.unusedVariables false
set_option linter.unusedSimpArgs false
namespace Go.Proofs.YtjmhkcfdmcjilaaGreat
namespace Fi
open Go.RowKit Ai

/-- What a record tells of changes behind a sector and a page. -/
def recB : (lba phys : Int) → List Op3 → List Nat
  | _, _, [] => []
  | lba, phys, x :: r => enc (zig (x.l - lba)) ++ (enc x.n.toNat ++
      (if x.p < 0 then enc 0 ++ recB (x.l + x.n) phys r
       else enc (zig (if 0 ≤ x.p - phys then x.p - phys + 1 else x.p - phys)) ++ recB (x.l + x.n) (x.p + x.n) r))

theorem own_base {w : World} {base base' : Nat} {e : TypeId} {size n : Nat} {v : Value} {xs : List Value} (h : w.ownsRow base' e size v n xs) (hb : base ≤ base') : w.ownsRow base e size v n xs := by
  rcases h with ⟨h1, h2 | ⟨g, cap, cur, h3, h4, h5⟩⟩
  · exact ⟨h1, .inl h2⟩
  · exact ⟨h1, .inr ⟨g, cap, cur, h3, Nat.le_trans hb h4, h5⟩⟩

/-- A local struct of three ints. -/
def OC (w : World) (g : Nat) (l n p : Int) : Prop := g < w.heap.size ∧ w.cell? ⟨g, 0, none⟩ = some (.int .i64 l) ∧ w.cell? ⟨g, 1, none⟩ = some (.int .i64 n) ∧ w.cell? ⟨g, 2, none⟩ = some (.int .i64 p)

theorem OC.below {w w' : World} {g : Nat} {l n p : Int} (h : OC w g l n p) (hb : Below w.heap.size w w') : OC w' g l n p := by
  obtain ⟨h0, h1, h2, h3⟩ := h
  exact ⟨Nat.lt_of_lt_of_le h0 hb.size, by rw [hb.cell h0]; exact h1, by rw [hb.cell h0]; exact h2, by rw [hb.cell h0]; exact h3⟩

theorem OC.new (w : World) (l n p : Int) (e : TypeId) (fr : Nat × Nat) : OC (w.alloc (.cells #[.int .i64 l, .int .i64 n, .int .i64 p] e fr)) w.heap.size l n p := by
  have h := heap_alloc_new w (.cells #[.int .i64 l, .int .i64 n, .int .i64 p] e fr)
  exact ⟨by simp, by rw [cell_of_row _ _ _ _ _ _ h]; rfl, by rw [cell_of_row _ _ _ _ _ _ h]; rfl, by rw [cell_of_row _ _ _ _ _ _ h]; rfl⟩

theorem enc10 (x : Nat) (h : x < 18446744073709551616) : (enc x).length ≤ 10 := enc_length_le 9 x (by omega)

def recOk (xs : List Op3) : Bool := xs.all rightOp

theorem own_below {w w' : World} {base : Nat} {e : TypeId} {size n : Nat} {v : Value} {xs : List Value} (h : w.ownsRow base e size v n xs) (hb : Below w.heap.size w w') : w'.ownsRow base e size v n xs := by
  rcases h with ⟨h1, h2 | ⟨g, cap, cur, h3, h4, h5, h6⟩⟩
  · exact ⟨h1, .inl h2⟩
  · refine ⟨h1, .inr ⟨g, cap, cur, h3, h4, ?_, h6⟩⟩
    rw [hb.block g (by have := (Array.getElem?_eq_some_iff.1 h5).1; exact this)]
    exact h5

theorem rec_neg {lba phys : Int} {x : Op3} {r : List Op3} (hp : x.p < 0) : recB lba phys (x :: r) = (enc (zig (x.l - lba)) ++ enc x.n.toNat ++ enc (0 : Int).toNat) ++ recB (x.l + x.n) phys r := by
  rw [recB, if_pos hp]; simp
theorem rec_ge {lba phys : Int} {x : Op3} {r : List Op3} (hp : ¬ x.p < 0) (hd : 0 ≤ x.p - phys) : recB lba phys (x :: r) = (enc (zig (x.l - lba)) ++ enc x.n.toNat ++ enc (zig (x.p - phys + 1))) ++ recB (x.l + x.n) (x.p + x.n) r := by
  rw [recB, if_neg hp, if_pos hd]; simp
theorem rec_lt {lba phys : Int} {x : Op3} {r : List Op3} (hp : ¬ x.p < 0) (hd : ¬ 0 ≤ x.p - phys) : recB lba phys (x :: r) = (enc (zig (x.l - lba)) ++ enc x.n.toNat ++ enc (zig (x.p - phys))) ++ recB (x.l + x.n) (x.p + x.n) r := by
  rw [recB, if_neg hp, if_neg hd]; simp

theorem drop_of {α : Type} {xs : List α} {k : Nat} {x : α} (h : xs[k]? = some x) : xs.drop k = x :: xs.drop (k + 1) := by
  obtain ⟨hlt, rfl⟩ := List.getElem?_eq_some_iff.1 h
  exact List.drop_eq_getElem_cons hlt

theorem all_take {α : Type} {f : α → Bool} {xs : List α} {k : Nat} {x : α} (h : xs[k]? = some x) (ha : (xs.take k).all f = true) (hx : f x = true) : (xs.take (k + 1)).all f = true := by
  rw [List.take_add_one, h]
  simp only [List.all_append, ha, Option.toList_some, List.all_cons, hx, List.all_nil, Bool.and_self]

theorem rec_step {w W : World} {n k : Nat} {xs : List Op3} {pre E : List Nat} {lba phys lba' phys' : Int} {x : Op3} (h : enc n ++ recB 0 0 xs = pre ++ recB lba phys (xs.drop k)) (ha : (xs.take k).all rightOp = true)
    (hx : xs[k]? = some x) (hr : rightOp x = true) (hE : recB lba phys (x :: xs.drop (k + 1)) = E ++ recB lba' phys' (xs.drop (k + 1))) {v : Value} {m : Nat} (ho : W.ownsRow w.heap.size 5 1 v m (bytesV (pre ++ E))) (hb : Below w.heap.size w W) :
    enc n ++ recB 0 0 xs = (pre ++ E) ++ recB lba' phys' (xs.drop (k + 1)) ∧ (xs.take (k + 1)).all rightOp = true ∧ W.ownsRow w.heap.size 5 1 v (pre ++ E).length (bytesV (pre ++ E)) ∧ Below w.heap.size w W := by
  have hm : (pre ++ E).length = m := by have := ho.1; simpa [bytesV] using this
  refine ⟨?_, all_take hx ha hr, by rw [hm]; exact ho, hb⟩
  rw [h, drop_of hx, hE, List.append_assoc]

theorem recOk_false {xs : List Op3} {k : Nat} {x : Op3} (hx : xs[k]? = some x) (hr : ¬ rightOp x = true) : recOk xs = false := by
  cases h : recOk xs with
  | false => rfl
  | true => exact absurd (List.all_eq_true.1 h x (List.mem_of_getElem? hx)) hr

set_option maxHeartbeats 4000000 in
set_option maxRecDepth 100000 in
theorem record_ok (w : World) (A : Option Addr) (cap : Nat) (xs : List Op3) (hA : Acts3 w A xs) (hn : xs.length ≤ 512) :
    Calls Tryz.prog 14 #[.slice A xs.length cap] w fun e w' => ∃ v' er, e = .returned (.tuple #[v', .int .i64 er]) ∧ Below w.heap.size w w' ∧
      (recOk xs = true → er = 0 ∧ w'.ownsRow w.heap.size 5 1 v' (enc xs.length ++ recB 0 0 xs).length (bytesV (enc xs.length ++ recB 0 0 xs))) ∧ (recOk xs = false → er = 1) := by
  have HA := Aside.mk hA
  clear hA
  obtain ⟨n, hln⟩ : ∃ n, n = xs.length := ⟨_, rfl⟩
  rw [← hln] at hn
  rw [← hln]
  have HLN := Aside.mk hln
  clear hln
  have hmod : (n : Int) % 18446744073709551616 = (n : Int) := by omega
  have HNIL := Aside.mk (World.ownsRow_nil w 0 5 1)
  go_enter Tryz.func14, Tryz.ntmps14
  go_wp2_with (go_at_call 45; go_loud (refine (put_ok _ 0 0 (.slice none 0 0) [] n HNIL.out (by omega) (by omega)).mono ?_; rintro e w1 ⟨v1, rfl, hown1, hbel1⟩; have HO := Aside.mk hown1; have HB := Aside.mk hbel1; clear hown1 hbel1))
  go_loopw [4, 5, 6, 19] (fun v4 v5 v6 v19 wr => ∃ (k : Nat) (pre : List Nat) (lba phys : Int), k ≤ n ∧ v19 = .int .i64 k ∧ v5 = .int .i64 lba ∧ v6 = .int .i64 phys ∧ (0 ≤ lba ∧ lba ≤ 1024 ∧ 0 ≤ phys ∧ phys ≤ 1050000) ∧ pre.length ≤ 10 + 30 * k ∧
    Aside (enc n ++ recB 0 0 xs = pre ++ recB lba phys (xs.drop k) ∧ (xs.take k).all rightOp = true ∧ wr.ownsRow w.heap.size 5 1 v4 pre.length (bytesV pre) ∧ Below w.heap.size w wr)) (fun _ _ _ v19 _ => n - (intOf v19).toNat)
  case atStart =>
    exact ⟨0, enc n, 0, 0, by omega, rfl, rfl, rfl, by omega, by have := enc10 n (by omega); omega, ⟨by simp, by simp, by simpa using HO.out, HB.out⟩⟩
  case round =>
    obtain ⟨k, pre, lba, phys, hk, rfl, rfl, rfl, hbd, hpl, HR⟩ := hrel
    by_cases hlt : k < n
    · obtain ⟨x, hx⟩ : ∃ x, xs[k]? = some x := ⟨_, List.getElem?_eq_getElem (by rw [← HLN.out]; exact hlt)⟩
      have HX := Aside.mk hx
      obtain ⟨b, off, rfl, hb, hcells⟩ := HA.out.2 (by rw [← HLN.out]; omega)
      have HBW := Aside.mk hb
      obtain ⟨hc0, hc1, hc2⟩ := hcells k x hx
      have hlb : b < w.heap.size := hb
      have hw0 : wr.cell? ⟨b, off + k * 3, none⟩ = some (.int .i64 x.l) := by rw [HR.out.2.2.2.cell hlb]; exact hc0
      have hw1 : wr.cell? ⟨b, off + k * 3 + 1, none⟩ = some (.int .i64 x.n) := by rw [HR.out.2.2.2.cell hlb]; exact hc1
      have hw2 : wr.cell? ⟨b, off + k * 3 + 2, none⟩ = some (.int .i64 x.p) := by rw [HR.out.2.2.2.cell hlb]; exact hc2
      clear hc0 hc1 hc2 hcells hx hb HO HB hlb
      by_cases hr : rightOp x = true
      · have hrr := hr
        simp only [rightOp, decide_eq_true_eq] at hrr
        have he1 := enc10 (zig (x.l - lba)) (zig_lt _ (by omega) (by omega))
        have he2 := enc10 x.n.toNat (by omega)
        have hm2 : x.n % 18446744073709551616 = x.n := by omega
        go_wp2_with (first | (go_at_call 47; go_loud (refine (right_ok _ x).mono ?_; rintro e w1 ⟨rfl, hb1⟩; have HC := Aside.mk ((OC.new wr x.l x.n x.p 42 (0, 0)).below hb1); have HB := Aside.mk ((HR.out.2.2.2.alloc HR.out.2.2.2.size _).trans (hb1.mono (by have := HR.out.2.2.2.size; simp; omega))); have HO := Aside.mk (own_below (HR.out.2.2.1.alloc (.cells #[.int .i64 x.l, .int .i64 x.n, .int .i64 x.p] 42)) hb1); obtain ⟨-, hq0, hq1, hq2⟩ := HC.out)) | (go_at_call 46; go_loud (refine (putint_ok _ _ _ _ _ _ HO.out (by omega) (by omega) (by omega)).mono ?_; rintro e w1 ⟨v1, rfl, hown, hb1⟩; have HC1 := Aside.mk (HC.out.below hb1); have HO1 := Aside.mk (own_base hown HB.out.size); have HB1 := Aside.mk (HB.out.trans (hb1.mono HB.out.size)); clear HC HO HB hq0 hq1 hq2 hown hb1; have HC := HC1; have HO := HO1; have HB := HB1; clear HC1 HO1 HB1; obtain ⟨-, hq0, hq1, hq2⟩ := HC.out)) | (go_at_call 45; go_loud (refine (putI_ok _ _ _ _ _ _ HO.out (by omega) (by omega) (by omega)).mono ?_; rintro e w1 ⟨v1, rfl, hown, hb1⟩; have HC1 := Aside.mk (HC.out.below hb1); have HO1 := Aside.mk (own_base hown HB.out.size); have HB1 := Aside.mk (HB.out.trans (hb1.mono HB.out.size)); clear HC HO HB hq0 hq1 hq2 hown hb1; have HC := HC1; have HO := HO1; have HB := HB1; clear HC1 HO1 HB1; obtain ⟨-, hq0, hq1, hq2⟩ := HC.out)))
        · have R := rec_step (W := _) HR.out.1 HR.out.2.1 HX.out hr (rec_neg (by omega)) (by simpa only [List.append_assoc] using HO.out) HB.out
          go_roundw
          case rel => exact ⟨k + 1, _, x.l + x.n, phys, by omega, by go_num, rfl, rfl, by omega, by have := he1; have := he2; simp [enc_small]; omega, ⟨R⟩⟩
          case measure => simp [intOf]; omega
        · have hd : 0 ≤ x.p - phys := by omega
          have he3 := enc10 (zig (x.p - phys + 1)) (zig_lt _ (by omega) (by omega))
          have R := rec_step (W := _) HR.out.1 HR.out.2.1 HX.out hr (rec_ge (by omega) hd) (by simpa only [List.append_assoc] using HO.out) HB.out
          go_roundw
          case rel => exact ⟨k + 1, _, x.l + x.n, x.p + x.n, by omega, by go_num, rfl, rfl, by omega, by simp; omega, ⟨R⟩⟩
          case measure => simp [intOf]; omega
        · have hd : ¬ 0 ≤ x.p - phys := by omega
          have he3 := enc10 (zig (x.p - phys)) (zig_lt _ (by omega) (by omega))
          have R := rec_step (W := _) HR.out.1 HR.out.2.1 HX.out hr (rec_lt (by omega) hd) (by simpa only [List.append_assoc] using HO.out) HB.out
          go_roundw
          case rel => exact ⟨k + 1, _, x.l + x.n, x.p + x.n, by omega, by go_num, rfl, rfl, by omega, by simp; omega, ⟨R⟩⟩
          case measure => simp [intOf]; omega
      · have HF := Aside.mk (recOk_false HX.out hr)
        go_wp2_with (first | (go_at_call 47; go_loud (refine (right_ok _ x).mono ?_; rintro e w1 ⟨rfl, hb1⟩; have HB := Aside.mk ((HR.out.2.2.2.alloc HR.out.2.2.2.size _).trans (hb1.mono (by have := HR.out.2.2.2.size; simp; omega))))))
        go_ret2
        refine ⟨_, _, rfl, HB.out, ?_⟩
        rw [HF.out]
        exact ⟨(fun h => by cases h), fun _ => rfl⟩
    · have hkn : k = n := by omega
      subst hkn
      go_wp2_with fail
      go_ret2
      refine ⟨_, _, rfl, HR.out.2.2.2, fun _ => ⟨rfl, ?_⟩, fun h => ?_⟩
      · have e : enc k ++ recB 0 0 xs = pre := by
          rw [HR.out.1, HLN.out, List.drop_length, recB, List.append_nil]
        rw [e]
        exact HR.out.2.2.1
      · have := HR.out.2.1
        rw [HLN.out, List.take_length] at this
        rw [show recOk xs = true from this] at h
        cases h
end Fi
end Go.Proofs.YtjmhkcfdmcjilaaGreat
set_option linter.unusedVariables false
set_option linter.unusedSimpArgs false
namespace Go.Proofs.YtjmhkcfdmcjilaaGreat
namespace Fi
open Go.RowKit Ai

/-- Runs in their form, on sectors below 512 and pages up to 2^20. -/
def okRuns (xs : List Op3) : Prop :=
  (∀ x ∈ xs, 0 ≤ x.l ∧ x.l < 512 ∧ 1 ≤ x.n ∧ x.n ≤ 512 - x.l ∧ 0 ≤ x.p ∧ x.p ≤ 1048576) ∧
  ∀ (i : Nat) (a x : Op3), xs[i]? = some a → xs[i + 1]? = some x → a.n ≤ x.l - a.l ∧ ¬ (x.l - a.l = a.n ∧ x.p - a.p = a.n)

theorem cells_at {w W : World} {b off : Nat} {xs : List Op3} (h : ∀ (i : Nat) (x : Op3), xs[i]? = some x →
    w.cell? ⟨b, off + i * 3, none⟩ = some (.int .i64 x.l) ∧ w.cell? ⟨b, off + i * 3 + 1, none⟩ = some (.int .i64 x.n) ∧ w.cell? ⟨b, off + i * 3 + 2, none⟩ = some (.int .i64 x.p))
    (hb : b < w.heap.size) (hB : Below w.heap.size w W) (i : Nat) (x : Op3) (hx : xs[i]? = some x) :
    W.cell? ⟨b, off + i * 3, none⟩ = some (.int .i64 x.l) ∧ W.cell? ⟨b, off + i * 3 + 1, none⟩ = some (.int .i64 x.n) ∧ W.cell? ⟨b, off + i * 3 + 2, none⟩ = some (.int .i64 x.p) := by
  obtain ⟨h1, h2, h3⟩ := h i x hx
  exact ⟨by rw [hB.cell hb]; exact h1, by rw [hB.cell hb]; exact h2, by rw [hB.cell hb]; exact h3⟩

set_option maxHeartbeats 4000000 in
set_option maxRecDepth 100000 in
theorem form_ok (w : World) (A : Option Addr) (cap : Nat) (xs : List Op3) (hA : Acts3 w A xs) (hn : xs.length ≤ 512) (hf : okRuns xs) :
    Calls Tryz.prog 44 #[.slice A xs.length cap] w fun e w' => e = .returned (.bool true) ∧ Below w.heap.size w w' := by
  have HA := Aside.mk hA
  have HF := Aside.mk hf
  clear hA hf
  obtain ⟨n, hln⟩ : ∃ n, n = xs.length := ⟨_, rfl⟩
  rw [← hln] at hn
  rw [← hln]
  have HLN := Aside.mk hln
  clear hln
  go_enter Tryz.func44, Tryz.ntmps44
  go_wp2_with fail
  go_loopw [9] (fun v9 wr => ∃ (k : Nat), k ≤ n ∧ v9 = .int .i64 k ∧ Aside (Below w.heap.size w wr)) (fun v9 _ => n - (intOf v9).toNat)
  case atStart => exact ⟨0, by omega, rfl, ⟨Below.refl _ _⟩⟩
  case round =>
    obtain ⟨k, hk, rfl, HR⟩ := hrel
    by_cases hlt : k < n
    · obtain ⟨x, hx⟩ : ∃ x, xs[k]? = some x := ⟨_, List.getElem?_eq_getElem (by rw [← HLN.out]; exact hlt)⟩
      obtain ⟨b, off, rfl, hb, hcells⟩ := HA.out.2 (by rw [← HLN.out]; omega)
      have hxf := HF.out.1 x (List.mem_of_getElem? hx)
      have HC := Aside.mk (cells_at hcells hb HR.out)
      obtain ⟨hw0, hw1, hw2⟩ := HC.out k x hx
      have HX := Aside.mk hx
      have HBW := Aside.mk hb
      have HB2 := Aside.mk (HR.out.alloc HR.out.size (.cells #[.int .i64 x.l, .int .i64 x.n, .int .i64 x.p] 94))
      clear hcells hb hx
      by_cases hk0 : k = 0
      · subst hk0
        simp only [Nat.zero_mul, Nat.add_zero] at hw0 hw1 hw2
        go_wp2_with fail
        go_roundw
        case rel => exact ⟨1, by omega, by go_num, ⟨HB2.out⟩⟩
        case measure => simp [intOf]; omega
      · obtain ⟨j, rfl⟩ : ∃ j, k = j + 1 := ⟨k - 1, by omega⟩
        obtain ⟨a, ha⟩ : ∃ a, xs[j]? = some a := ⟨_, List.getElem?_eq_getElem (by rw [← HLN.out]; omega)⟩
        have HC2 := Aside.mk (cells_at HC.out (Nat.lt_of_lt_of_le HBW.out HR.out.size) ((Below.refl _ _).alloc (Nat.le_refl _) (.cells #[.int .i64 x.l, .int .i64 x.n, .int .i64 x.p] 94)))
        obtain ⟨hv0, hv1, hv2⟩ := HC2.out j a ha
        have haf := HF.out.1 a (List.mem_of_getElem? ha)
        have hpair := HF.out.2 j a x ha HX.out
        have HB3 := Aside.mk (HB2.out.alloc HB2.out.size (.cells #[.int .i64 a.l, .int .i64 a.n, .int .i64 a.p] 94))
        clear ha
        go_wp2_with fail
        all_goals first
          | (exfalso; omega)
          | (go_roundw
             case rel => exact ⟨j + 2, by omega, by go_num, ⟨HB3.out⟩⟩
             case measure => simp [intOf]; omega)
        go_ways
    · have hkn : k = n := by omega
      subst hkn
      go_wp2_with fail
      go_ret
      exact ⟨rfl, HR.out⟩
end Fi
end Go.Proofs.YtjmhkcfdmcjilaaGreat
