/-
  Walks of the flat map: change, Set.
-/
import Derived.Test.YtjmhkcfdmcjilaaGreatFiE
/- Walks of the flat map: goesOn, count, right. -/
set_option linter.unusedVariables false
set_option linter.unusedSimpArgs false
namespace Go.Proofs.YtjmhkcfdmcjilaaGreat
namespace Fi
open Go.RowKit Ai

def intsV (l : List Int) : List Value := l.map fun x => Value.int .i64 x

/-- A row of ints, to be read. -/
def Tab (w : World) (g : Nat) (t : List Int) : Prop := g < w.heap.size ∧ (∀ (i : Nat) (x : Int), t[i]? = some x → w.cell? ⟨g, i, none⟩ = some (.int .i64 x))

theorem Tab.below {w w' : World} {g : Nat} {t : List Int} (h : Tab w g t) (hb : Below w.heap.size w w') : Tab w' g t :=
  ⟨Nat.lt_of_lt_of_le h.1 hb.size, fun i x hx => by rw [hb.cell h.1]; exact h.2 i x hx⟩

/-- Entries are -1, or pages up to 2^21. -/
def okTab (t : List Int) : Prop := ∀ x ∈ t, -1 ≤ x ∧ x ≤ 2097152

/-- Does a sector go on with the run of the one ahead? -/
def goes (t : List Int) (i : Nat) : Bool :=
  match i with
  | 0 => false
  | j + 1 => match t[j + 1]?, t[j]? with
    | some x, some y => decide (0 ≤ x ∧ 0 ≤ y ∧ x = y + 1)
    | _, _ => false

theorem goes_succ {t : List Int} {j : Nat} {x y : Int} (hx : t[j + 1]? = some x) (hy : t[j]? = some y) : goes t (j + 1) = decide (0 ≤ x ∧ 0 ≤ y ∧ x = y + 1) := by
  simp only [goes, hx, hy]

set_option maxHeartbeats 4000000 in
set_option maxRecDepth 100000 in
theorem goes_ok (w : World) (g cap : Nat) (t : List Int) (i : Nat) (hT : Tab w g t) (ho : okTab t) (hi : i < t.length) (hl : t.length ≤ 512) :
    Calls Tryz.prog 90 #[.slice (some ⟨g, 0, none⟩) t.length cap, .int .i64 i] w fun e w' => e = .returned (.bool (goes t i)) ∧ ∃ q, w' = w.drewN q := by
  obtain ⟨r, hr⟩ : ∃ r, r = goes t i := ⟨_, rfl⟩
  rw [← hr]
  have HR := Aside.mk hr
  clear hr
  obtain ⟨n, hln⟩ : ∃ n, n = t.length := ⟨_, rfl⟩
  rw [← hln] at hi hl ⊢
  have HLN := Aside.mk hln
  have HT := Aside.mk hT
  have HO := Aside.mk ho
  clear hln hT ho
  cases i with
  | zero =>
    go_enter Tryz.func90, Tryz.ntmps90
    go_wp2_with fail
    go_quiet (fail)
    go_wp2_with fail
    go_ret
    exact ⟨ret_bool (by rw [HR.out]; rfl), _, rfl⟩
  | succ j =>
    obtain ⟨x, hx⟩ : ∃ x, t[j + 1]? = some x := ⟨_, List.getElem?_eq_getElem (by rw [← HLN.out]; exact hi)⟩
    obtain ⟨y, hy⟩ : ∃ y, t[j]? = some y := ⟨_, List.getElem?_eq_getElem (by rw [← HLN.out]; omega)⟩
    have hw0 := HT.out.2 _ _ hx
    have hw1 := HT.out.2 _ _ hy
    have hxb := HO.out x (List.mem_of_getElem? hx)
    have hyb := HO.out y (List.mem_of_getElem? hy)
    have HG := Aside.mk (goes_succ hx hy)
    clear hx hy
    have hs1 : IntKind.i64.wrap (y + 1) = y + 1 := by rw [IntKind.wrap_i64]; omega
    have hs2 : IntKind.i64.wrap ((j : Int) + 1 - 1) = (j : Int) := by rw [IntKind.wrap_i64]; omega
    have hj0 : (0 : Int) < (j : Int) + 1 := by omega
    by_cases h1 : 0 ≤ x
    · have hd1 : decide (0 ≤ x) = true := decide_eq_true h1
      by_cases h2 : 0 ≤ y
      · have hd2 : decide (0 ≤ y) = true := decide_eq_true h2
        go_enter Tryz.func90, Tryz.ntmps90
        go_wp2_with fail
        go_quiet (fail)
        go_wp2_with fail
        go_ret
        refine ⟨ret_bool ?_, _, rfl⟩
        rw [HR.out, HG.out]
        simp [h1, h2]
        rfl
      · have hd2 : decide (0 ≤ y) = false := decide_eq_false h2
        go_enter Tryz.func90, Tryz.ntmps90
        go_wp2_with fail
        go_quiet (fail)
        go_wp2_with fail
        go_ret
        refine ⟨ret_bool ?_, _, rfl⟩
        rw [HR.out, HG.out]
        symm
        apply decide_eq_false
        omega
    · have hd1 : decide (0 ≤ x) = false := decide_eq_false h1
      go_enter Tryz.func90, Tryz.ntmps90
      go_wp2_with fail
      go_quiet (fail)
      go_wp2_with fail
      go_ret
      refine ⟨ret_bool ?_, _, rfl⟩
      rw [HR.out, HG.out]
      symm
      apply decide_eq_false
      omega

/-- Does a run begin at a sector? -/
def starts (t : List Int) (i : Nat) : Bool := decide (0 ≤ t.getD i (-1)) && !goes t i

theorem drewN_trans {w a b : World} (h : ∃ q, a = w.drewN q) (k : ∃ q, b = a.drewN q) : ∃ q, b = w.drewN q := by
  obtain ⟨q, rfl⟩ := h
  obtain ⟨r, rfl⟩ := k
  exact ⟨q + r, by simp [World.drewN, Nat.add_assoc]⟩

/-- How many runs begin ahead of a sector. -/
def cntTo (t : List Int) (k : Nat) : Nat := ((List.range k).filter fun i => starts t i).length

theorem cntTo_succ (t : List Int) (k : Nat) : cntTo t (k + 1) = cntTo t k + (if starts t k then 1 else 0) := by
  unfold cntTo
  rw [List.range_succ, List.filter_append, List.length_append]
  congr 1
  simp only [List.filter_cons, List.filter_nil]
  split <;> rfl

theorem cntTo_le (t : List Int) : ∀ k, cntTo t k ≤ k
  | 0 => Nat.le_refl _
  | k + 1 => by rw [cntTo_succ]; have := cntTo_le t k; split <;> omega

set_option maxHeartbeats 4000000 in
set_option maxRecDepth 100000 in
theorem count_ok (w : World) (g cap : Nat) (t : List Int) (hT : Tab w g t) (ho : okTab t) (hl : t.length ≤ 512) :
    Calls Tryz.prog 122 #[.slice (some ⟨g, 0, none⟩) t.length cap] w fun e w' => e = .returned (.int .i64 (cntTo t t.length)) ∧ ∃ q, w' = w.drewN q := by
  have HG := Aside.mk (fun (W : World) (hW : ∃ q, W = w.drewN q) (i : Nat) (hi : i < t.length) => goes_ok W g cap t i (by obtain ⟨q, rfl⟩ := hW; exact hT) ho hi hl)
  obtain ⟨n, hln⟩ : ∃ n, n = t.length := ⟨_, rfl⟩
  rw [← hln] at hl HG
  rw [← hln]
  have HLN := Aside.mk hln
  have HT := Aside.mk hT
  have HO := Aside.mk ho
  clear hln hT ho
  go_enter Tryz.func122, Tryz.ntmps122
  go_wp2_with fail
  go_loopw [3, 8] (fun v3 v8 wr => ∃ (k m : Nat), k ≤ n ∧ v8 = .int .i64 k ∧ v3 = .int .i64 m ∧ m ≤ k ∧ Aside (m = cntTo t k ∧ ∃ q, wr = w.drewN q)) (fun _ v8 _ => n - (intOf v8).toNat)
  case atStart => exact ⟨0, 0, by omega, rfl, rfl, by omega, ⟨rfl, 0, rfl⟩⟩
  case round =>
    obtain ⟨k, m, hk, rfl, rfl, hmk, HR⟩ := hrel
    by_cases hlt : k < n
    · obtain ⟨x, hx⟩ : ∃ x, t[k]? = some x := ⟨_, List.getElem?_eq_getElem (by rw [← HLN.out]; exact hlt)⟩
      have hw0 : wr.cell? ⟨g, k, none⟩ = some (.int .i64 x) := by obtain ⟨q, hq⟩ := HR.out.2; rw [hq]; exact HT.out.2 _ _ hx
      have HS := Aside.mk (show starts t k = (decide (0 ≤ x) && !goes t k) by unfold starts; rw [List.getD_eq_getElem?_getD, hx]; rfl)
      have HST := Aside.mk (cntTo_succ t k)
      clear hx
      obtain ⟨q, hq⟩ : ∃ q, q = goes t k := ⟨_, rfl⟩
      rw [← hq] at HS
      have HCALL := Aside.mk (HG.out wr HR.out.2 k hlt)
      rw [← hq] at HCALL
      have HB := Aside.mk HR.out.2
      clear hq HG
      by_cases h1 : 0 ≤ x
      · have hd1 : decide (0 ≤ x) = true := decide_eq_true h1
        cases q with
        | true =>
          go_wp2_with (go_at_call 90; go_loud (refine HCALL.out.mono ?_; rintro e w1 ⟨rfl, hb1⟩; have HB2 := Aside.mk (drewN_trans HB.out hb1); clear hb1))
          go_roundw
          case rel => exact ⟨k + 1, m, by omega, by go_num, rfl, by omega, ⟨by rw [HST.out, HS.out, HR.out.1]; simp, HB2.out⟩⟩
          case measure => simp [intOf]; omega
        | false =>
          go_wp2_with (go_at_call 90; go_loud (refine HCALL.out.mono ?_; rintro e w1 ⟨rfl, hb1⟩; have HB2 := Aside.mk (drewN_trans HB.out hb1); clear hb1))
          go_roundw
          case rel => exact ⟨k + 1, m + 1, by omega, by go_num, by go_num, by omega, ⟨by rw [HST.out, HS.out, HR.out.1]; simp [h1], HB2.out⟩⟩
          case measure => simp [intOf]; omega
      · have hd1 : decide (0 ≤ x) = false := decide_eq_false h1
        go_wp2_with fail
        go_roundw
        case rel => exact ⟨k + 1, m, by omega, by go_num, rfl, by omega, ⟨by rw [HST.out, HS.out, HR.out.1]; simp [h1], HB.out⟩⟩
        case measure => simp [intOf]; omega
    · have hkn : k = n := by omega
      subst hkn
      go_wp2_with fail
      go_ret
      exact ⟨by rw [HR.out.1]; rfl, HR.out.2⟩

/-- A flat map: its greatest number of runs, its table. -/
structure Flat (w : World) (m : Nat) (most : Int) (g cap : Nat) (t : List Int) : Prop where
  obj : w.heap[m]? = some (.cells #[.int .i64 most, .slice (some ⟨g, 0, none⟩) t.length cap] 158 (0, 0))
  row : w.ownsRow 0 3 1 (.slice (some ⟨g, 0, none⟩) t.length cap) t.length (intsV t)
  lt : g < w.heap.size

theorem Flat.tab {w : World} {m : Nat} {most : Int} {g cap : Nat} {t : List Int} (h : Flat w m most g cap t) : Tab w g t :=
  ⟨h.lt, fun i x hx => by
    rw [h.row.cellAt i (by rw [Nat.mul_one]; exact (List.getElem?_eq_some_iff.1 hx).1), intsV, List.getElem?_map, hx]; rfl⟩

theorem Flat.cells {w : World} {m : Nat} {most : Int} {g cap : Nat} {t : List Int} (h : Flat w m most g cap t) :
    w.cell? ⟨m, 0, none⟩ = some (.int .i64 most) ∧ w.cell? ⟨m, 1, none⟩ = some (.slice (some ⟨g, 0, none⟩) t.length cap) :=
  ⟨by rw [cell_of_row _ _ _ _ _ _ h.obj]; rfl, by rw [cell_of_row _ _ _ _ _ _ h.obj]; rfl⟩

theorem Flat.ltm {w : World} {m : Nat} {most : Int} {g cap : Nat} {t : List Int} (h : Flat w m most g cap t) : m < w.heap.size := (Array.getElem?_eq_some_iff.1 h.obj).1

theorem Flat.below {w w' : World} {m : Nat} {most : Int} {g cap : Nat} {t : List Int} (h : Flat w m most g cap t) (hb : Below w.heap.size w w') : Flat w' m most g cap t :=
  ⟨by rw [hb.block m h.ltm]; exact h.obj, own_below h.row hb, Nat.lt_of_lt_of_le h.lt hb.size⟩

def rightR (n lba len : Int) : Bool := decide (1 ≤ len ∧ len ≤ n ∧ 0 ≤ lba ∧ lba ≤ n - len)

set_option maxHeartbeats 4000000 in
set_option maxRecDepth 100000 in
theorem fright_ok (w : World) (m : Nat) (most : Int) (g cap : Nat) (t : List Int) (hF : Flat w m most g cap t) (hl : t.length ≤ 512) (lba len : Int) :
    Calls Tryz.prog 87 #[.pointer (some ⟨m, 0, none⟩), .int .i64 lba, .int .i64 len] w fun e w' => e = .returned (.bool (rightR t.length lba len)) ∧ w' = w := by
  obtain ⟨hc0, hc1⟩ := hF.cells
  obtain ⟨n, hln⟩ : ∃ n, n = t.length := ⟨_, rfl⟩
  rw [← hln] at hl hc1 ⊢
  obtain ⟨r, hr⟩ : ∃ r, r = rightR n lba len := ⟨_, rfl⟩
  rw [← hr]
  have HR := Aside.mk hr
  clear hr hln hF
  by_cases h1 : 1 ≤ len
  · by_cases h2 : len ≤ n
    · by_cases h3 : 0 ≤ lba
      · go_enter Tryz.func87, Tryz.ntmps87
        go_wp2_with fail
        go_ret
        refine ⟨ret_bool ?_, rfl⟩
        rw [HR.out, rightR]
        apply decide_eq_decide.2
        omega
      · go_enter Tryz.func87, Tryz.ntmps87
        go_wp2_with fail
        go_ret
        refine ⟨ret_bool ?_, rfl⟩
        rw [HR.out, rightR]
        symm
        apply decide_eq_false
        omega
    · go_enter Tryz.func87, Tryz.ntmps87
      go_wp2_with fail
      go_ret
      refine ⟨ret_bool ?_, rfl⟩
      rw [HR.out, rightR]
      symm
      apply decide_eq_false
      omega
  · go_enter Tryz.func87, Tryz.ntmps87
    go_wp2_with fail
    go_ret
    refine ⟨ret_bool ?_, rfl⟩
    rw [HR.out, rightR]
    symm
    apply decide_eq_false
    omega
end Fi
end Go.Proofs.YtjmhkcfdmcjilaaGreat
set_option linter.unusedVariables false
set_option linter.unusedSimpArgs false
namespace Go.Proofs.YtjmhkcfdmcjilaaGreat
namespace Fi
open Go.RowKit Ai

/-- Nothing that was there has turned, but block m. -/
structure Mod (w w' : World) (m : Nat) : Prop where
  os : w'.os = w.os
  tape : w'.tape = w.tape
  output : w'.output = w.output
  size : w.heap.size ≤ w'.heap.size
  block : ∀ k, k < w.heap.size → k ≠ m → w'.heap[k]? = w.heap[k]?

theorem Mod.of_below {w w' : World} (h : Below w.heap.size w w') (m : Nat) : Mod w w' m := ⟨h.os, h.tape, h.output, h.size, fun k hk _ => h.block k hk⟩
theorem Mod.below {w w' a : World} {B m : Nat} (h : Mod w w' m) (hb : Below B a w) (hB : B ≤ w.heap.size) (hm : B ≤ m) : Below B a w' :=
  ⟨h.os.trans hb.os, h.tape.trans hb.tape, h.output.trans hb.output, Nat.le_trans hb.size h.size, fun k hk => (h.block k (by omega) (by omega)).trans (hb.block k hk)⟩

/-- A table with entries from lba on. -/
def putTo (t : List Int) (lba : Nat) (pg : Nat → Int) : Nat → List Int
  | 0 => t
  | k + 1 => (putTo t lba pg k).set (lba + k) (pg k)

theorem putTo_length (t : List Int) (lba : Nat) (pg : Nat → Int) : ∀ k, (putTo t lba pg k).length = t.length
  | 0 => rfl
  | k + 1 => by rw [putTo, List.length_set, putTo_length t lba pg k]

theorem putTo_ok {t : List Int} {lba : Nat} {pg : Nat → Int} (ht : okTab t) : ∀ (k : Nat), (∀ i, i < k → -1 ≤ pg i ∧ pg i ≤ 2097152) → okTab (putTo t lba pg k)
  | 0, _ => ht
  | k + 1, hp => by
    intro x hx
    rw [putTo] at hx
    rcases List.mem_or_eq_of_mem_set hx with h | h
    · exact putTo_ok ht k (fun i hi => hp i (by omega)) x h
    · rw [h]; exact hp k (by omega)

theorem ints_one (l : List Int) : ∀ u ∈ intsV l, u.oneCell' = true := by
  intro u hu
  simp only [intsV, List.mem_map] at hu
  obtain ⟨x, _, rfl⟩ := hu
  rfl

theorem flat_other {w : World} {m : Nat} {most : Int} {g cap : Nat} {t : List Int} (h : Flat w m most g cap t) : g ≠ m := by
  rcases h.row.2 with ⟨h1, _⟩ | ⟨g', cap', cur, h1, _, h2, _⟩
  · cases h1
  · simp only [Value.slice.injEq, Option.some.injEq, Addr.mk.injEq, and_true, true_and] at h1
    obtain ⟨rfl, rfl⟩ := h1
    intro e
    subst e
    have := h.obj.symm.trans h2
    simp at this

theorem Mod.trans {a b c : World} {m : Nat} (h : Mod a b m) (k : Mod b c m) : Mod a c m :=
  ⟨k.os.trans h.os, k.tape.trans h.tape, k.output.trans h.output, Nat.le_trans h.size k.size, fun j hj hm => (k.block j (Nat.lt_of_lt_of_le hj h.size) hm).trans (h.block j hj hm)⟩

theorem mod_set (w : World) (m i : Nat) (u : Value) : Mod w (w.setCell ⟨m, i, none⟩ u) m :=
  ⟨rfl, rfl, rfl, by simp [World.setCell], fun k _ hk => heap_setCell_other w ⟨m, i, none⟩ k u hk⟩

theorem own_set {w : World} {base : Nat} {e : TypeId} {size n : Nat} {xs : List Value} {g cap m i : Nat} {u : Value} (h : w.ownsRow base e size (.slice (some ⟨g, 0, none⟩) n cap) n xs) (hne : g ≠ m) :
    (w.setCell ⟨m, i, none⟩ u).ownsRow base e size (.slice (some ⟨g, 0, none⟩) n cap) n xs := by
  rcases h with ⟨h1, h2 | ⟨g', cap', cur, h3, h4, h5, h6⟩⟩
  · exact ⟨h1, .inl h2⟩
  · simp only [Value.slice.injEq, Option.some.injEq, Addr.mk.injEq, and_true, true_and] at h3
    obtain ⟨rfl, rfl⟩ := h3
    exact ⟨h1, .inr ⟨g, cap, cur, rfl, h4, (heap_setCell_other w ⟨m, i, none⟩ g u hne).trans h5, h6⟩⟩

theorem flat_set {W : World} {m : Nat} {most : Int} {g cap : Nat} {t : List Int} {g' cap' : Nat} {t' : List Int} (hF : Flat W m most g cap t) (hrow : W.ownsRow 0 3 1 (.slice (some ⟨g', 0, none⟩) t'.length cap') t'.length (intsV t')) (hne : g' ≠ m)
    (hlt : g' < W.heap.size) : Flat (W.setCell ⟨m, 1, none⟩ (.slice (some ⟨g', 0, none⟩) t'.length cap')) m most g' cap' t' := by
  refine ⟨?_, own_set hrow hne, by simpa [World.setCell] using hlt⟩
  rw [heap_setCell_same W m 1 _ 158 _ hF.obj]
  rfl

set_option maxHeartbeats 4000000 in
set_option maxRecDepth 100000 in
theorem change89_ok (w : World) (m : Nat) (most : Int) (g cap : Nat) (t : List Int) (hF : Flat w m most g cap t) (ho : okTab t) (hl : t.length ≤ 512) (lba n : Nat) (hn : 1 ≤ n) (hln : lba + n ≤ t.length) (q : Value) (pg : Nat → Int)
    (hp : ∀ i, i < n → -1 ≤ pg i ∧ pg i ≤ 2097152)
    (hcall : ∀ W, Below w.heap.size w W → ∀ i : Nat, i < n → Calls Tryz.prog 89 #[.int .i64 i, q] W fun e w' => e = .returned (.int .i64 (pg i)) ∧ w' = W) :
    Calls Tryz.prog 88 #[.pointer (some ⟨m, 0, none⟩), .int .i64 lba, .int .i64 n, .func (.func 89) #[] #[q]] w fun e w' => ∃ g' cap' t' r, e = .returned (.int .i64 r) ∧ Mod w w' m ∧ Flat w' m most g' cap' t' ∧
      ((most < cntTo (putTo t lba pg n) t.length ∧ r = 5 ∧ t' = t) ∨ (¬ most < cntTo (putTo t lba pg n) t.length ∧ r = 0 ∧ t' = putTo t lba pg n)) := by
  obtain ⟨hc0, hc1⟩ := hF.cells
  have hm := hF.ltm
  have HF := Aside.mk hF
  have HOT := Aside.mk ho
  have HP := Aside.mk hp
  have HCALL := Aside.mk hcall
  obtain ⟨N, hN⟩ : ∃ N, N = t.length := ⟨_, rfl⟩
  have HN := Aside.mk hN
  rw [← hN] at hl hln hc1 ⊢
  clear hF ho hp hcall hN
  have HCL := Aside.mk (clone3_ok w 0 N (.slice (some ⟨g, 0, none⟩) N cap) (intsV t) (by rw [HN.out]; exact HF.out.row) (by omega) (ints_one t))
  go_enter Tryz.func88, Tryz.ntmps88
  go_wp2_with (go_at_call 103; go_loud (refine HCL.out.mono ?_; rintro e w1 ⟨v1, rfl, hown1, hb1, hnil1⟩; have HO := Aside.mk hown1; have HB := Aside.mk hb1; have HV := Aside.mk (show v1 ≠ .slice none 0 0 from fun e => by have := hnil1.1 e; cases this); clear hown1 hb1 hnil1))
  obtain ⟨g', cap', rfl⟩ : ∃ g' cap', v1 = .slice (some ⟨g', 0, none⟩) N cap' := by
    rcases HO.out.2 with ⟨h1, _⟩ | ⟨g', cap', cur, h1, _⟩
    · exact absurd h1 HV.out
    · exact ⟨g', cap', h1⟩
  have hgw : w.heap.size ≤ g' := (HO.out.lt g' rfl).1
  go_loopw [17] (fun v17 wr => ∃ (k : Nat), k ≤ n ∧ v17 = .int .i64 k ∧ Aside (wr.ownsRow w.heap.size 3 1 (.slice (some ⟨g', 0, none⟩) N cap') N (intsV (putTo t lba pg k)) ∧ Below w.heap.size w wr)) (fun v17 _ => n - (intOf v17).toNat)
  case atStart => exact ⟨0, by omega, rfl, ⟨HO.out, HB.out⟩⟩
  case round =>
    obtain ⟨k, hk, rfl, HR⟩ := hrel
    clear HO HB
    by_cases hlt : k < n
    · have hnx : lba + k < N := by omega
      obtain ⟨u, hu⟩ : ∃ u, wr.cell? ⟨g', lba + k, none⟩ = some u := by
        have h1 := HR.out.1.cellAt (lba + k) (by omega)
        have h2 : lba + k < (intsV (putTo t lba pg k)).length := by rw [intsV, List.length_map, putTo_length, ← HN.out]; exact hnx
        exact ⟨_, h1.trans (List.getElem?_eq_getElem h2)⟩
      have hfz := HR.out.1.frozenAt (lba + k)
      have HS := Aside.mk (HR.out.1.stored (lba + k) (.int .i64 (pg k)))
      have HCK := Aside.mk (HCALL.out wr HR.out.2 k hlt)
      have HB2 := Aside.mk (HR.out.2.setCell (p := ⟨g', lba + k, none⟩) hgw (.int .i64 (pg k)))
      have HE := Aside.mk (show (intsV (putTo t lba pg k)).set (lba + k) (.int .i64 (pg k)) = intsV (putTo t lba pg (k + 1)) by rw [putTo, intsV, intsV, List.map_set])
      generalize pg k = pk at *
      go_wp2_with (go_at_call 89; go_loud (refine HCK.out.mono ?_; rintro e w1 ⟨rfl, rfl⟩))
      go_roundw
      case rel => exact ⟨k + 1, by omega, by go_num, ⟨by rw [← HE.out]; exact HS.out.1, HB2.out⟩⟩
      case measure => simp [intOf]; omega
    · have hkn : k = n := by omega
      subst hkn
      have HT := Aside.mk (show Tab wr g' (putTo t lba pg k) from ⟨(HR.out.1.lt g' rfl).2, fun i x hx => by
        rw [HR.out.1.cellAt i (by rw [Nat.mul_one, HN.out, ← putTo_length t lba pg k]; exact (List.getElem?_eq_some_iff.1 hx).1), intsV, List.getElem?_map, hx]; rfl⟩)
      have hlen := putTo_length t lba pg k
      have HCNT := Aside.mk (fun (q : Nat) => count_ok (wr.drewN q) g' cap' (putTo t lba pg k) HT.out (putTo_ok HOT.out k HP.out) (by rw [hlen, ← HN.out]; exact hl))
      rw [hlen, ← HN.out] at HCNT
      clear hlen
      have hcb0 : wr.cell? ⟨m, 0, none⟩ = some (.int .i64 most) := by rw [HR.out.2.cell hm]; exact hc0
      have hcb1 : wr.cell? ⟨m, 1, none⟩ = some (.slice (some ⟨g, 0, none⟩) N cap) := by rw [HR.out.2.cell hm]; exact hc1
      have hfm : wr.frozen? ⟨m, 1, none⟩ = false := by
        rw [HR.out.2.frozen hm]
        exact frozen_of_row _ _ _ _ _ HF.out.obj
      obtain ⟨c, hcq⟩ : ∃ c : Nat, c = cntTo (putTo t lba pg k) N := ⟨_, rfl⟩
      have HCQ := Aside.mk hcq
      rw [← hcq] at HCNT
      clear hcq
      go_wp2_with fail
      go_quiet ((go_at_call 122; refine Calls.quiet_of (HCNT.out _)))
      go_wp2_with fail
      · have hlt2 : most < (c : Int) := by assumption
        go_ret
        exact ⟨g, cap, t, 5, rfl, Mod.of_below (below_drewN HR.out.2 _) m, HF.out.below (below_drewN HR.out.2 _), .inl ⟨by rw [← HCQ.out]; exact hlt2, rfl, rfl⟩⟩
      · have hlt2 : (c : Int) ≤ most := by assumption
        have hlen := putTo_length t lba pg k
        have HN2 : N = (putTo t lba pg k).length := by rw [hlen]; exact HN.out
        have hrow := own_base (base := 0) HR.out.1 (Nat.zero_le _)
        have hgl := (HR.out.1.lt g' rfl).2
        go_ret
        refine ⟨g', cap', putTo t lba pg k, 0, rfl, (Mod.of_below (below_drewN HR.out.2 _) m).trans (mod_set _ _ _ _), ?_, .inr ⟨by rw [← HCQ.out]; exact hlt2, rfl, rfl⟩⟩
        rw [HN2] at hrow ⊢
        exact flat_set (W := wr.drewN nq) (HF.out.below (below_drewN HR.out.2 _)) hrow (by omega) hgl

theorem set1_ok (w : World) (p : Nat) (phys : Int) (i : Nat) (hc : w.cell? ⟨p, 0, none⟩ = some (.int .i64 phys)) (hb : -1 ≤ phys ∧ phys ≤ 1048576) (hi : i ≤ 512) :
    Calls Tryz.prog 89 #[.int .i64 i, .pointer (some ⟨p, 0, none⟩)] w fun e w' => e = .returned (.int .i64 (phys + i)) ∧ w' = w := by
  go_enter Tryz.func89, Tryz.ntmps89
  go_wp2_with fail
  go_ret
  exact ⟨rfl, rfl⟩

/-- What Set does to a table, and what it answers. -/
def flatSet (t : List Int) (most lba len phys : Int) : List Int × Int :=
  if rightR t.length lba len = true ∧ 0 ≤ phys ∧ phys ≤ 1048576 then
    (if most < cntTo (putTo t lba.toNat (fun i => phys + i) len.toNat) t.length then (t, 5) else (putTo t lba.toNat (fun i => phys + i) len.toNat, 0))
  else (t, 1)

theorem flatSet_length (t : List Int) (most lba len phys : Int) : (flatSet t most lba len phys).1.length = t.length := by
  unfold flatSet
  split
  · split
    · rfl
    · exact putTo_length _ _ _ _
  · rfl

theorem flatSet_ok {t : List Int} (most lba len phys : Int) (ht : okTab t) (hl : t.length ≤ 512) : okTab (flatSet t most lba len phys).1 := by
  unfold flatSet
  split
  · rename_i h
    split
    · exact ht
    · refine putTo_ok ht _ fun i hi => ?_
      have := h.1
      simp only [rightR, decide_eq_true_eq] at this
      omega
  · exact ht

set_option maxHeartbeats 4000000 in
set_option maxRecDepth 100000 in
theorem set_ok (w : World) (m : Nat) (most : Int) (g cap : Nat) (t : List Int) (hF : Flat w m most g cap t) (ho : okTab t) (hl : t.length ≤ 512) (lba len phys : Int) :
    Calls Tryz.prog 42 #[.pointer (some ⟨m, 0, none⟩), .int .i64 lba, .int .i64 len, .int .i64 phys] w fun e w' => ∃ g' cap', e = .returned (.int .i64 (flatSet t most lba len phys).2) ∧ Mod w w' m ∧ Flat w' m most g' cap' (flatSet t most lba len phys).1 := by
  have HF := Aside.mk hF
  have HOT := Aside.mk ho
  have HL := Aside.mk hl
  have HB := Aside.mk ((Below.refl w.heap.size w).alloc (Nat.le_refl _) (.cells #[.int .i64 phys] 3))
  obtain ⟨s, hs⟩ : ∃ s, s = flatSet t most lba len phys := ⟨_, rfl⟩
  rw [← hs]
  obtain ⟨q, hq⟩ : ∃ q, q = rightR t.length lba len := ⟨_, rfl⟩
  have HR := Aside.mk (fright_ok (w.alloc (.cells #[.int .i64 phys] 3)) m most g cap t (HF.out.below HB.out) hl lba len)
  rw [← hq] at HR
  have HS := Aside.mk hs
  have HQ := Aside.mk hq
  clear hs hq hF ho hl
  cases q with
  | false =>
    have hs1 := Aside.mk (show s = (t, 1) by rw [HS.out, flatSet, if_neg (by rw [← HQ.out]; simp)])
    go_enter Tryz.func42, Tryz.ntmps42
    go_wp2_with (go_at_call 87; go_loud (refine HR.out.mono ?_; rintro e w1 ⟨rfl, rfl⟩))
    go_ret
    rw [hs1.out]
    exact ⟨g, cap, rfl, Mod.of_below HB.out m, HF.out.below HB.out⟩
  | true =>
    by_cases hp : 0 ≤ phys ∧ phys ≤ 1048576
    · obtain ⟨hp1, hp2⟩ := hp
      have hr : 1 ≤ len ∧ len ≤ t.length ∧ 0 ≤ lba ∧ lba ≤ t.length - len := by
        have := HQ.out.symm
        simpa only [rightR, decide_eq_true_eq] using this
      obtain ⟨l, rfl⟩ := Int.eq_ofNat_of_zero_le hr.2.2.1
      obtain ⟨n, rfl⟩ := Int.eq_ofNat_of_zero_le (show 0 ≤ len by omega)
      have hln := HL.out
      have HCH := Aside.mk (change89_ok (w.alloc (.cells #[.int .i64 phys] 3)) m most g cap t (HF.out.below HB.out) HOT.out HL.out l n (by omega) (by omega) (.pointer (some ⟨w.heap.size, 0, none⟩)) (fun i => phys + i) (fun i hi => by omega)
        (fun W hW i hi => set1_ok W w.heap.size phys i (by rw [hW.cell (by simp), cell_of_row _ _ _ _ _ _ (heap_alloc_new w _)]; rfl) (by omega) (by omega)))
      have hs1 := Aside.mk (show s = if most < cntTo (putTo t l (fun i => phys + i) n) t.length then (t, 5) else (putTo t l (fun i => phys + i) n, 0) by rw [HS.out, flatSet, if_pos ⟨HQ.out.symm, hp1, hp2⟩]; rfl)
      clear hr hln
      go_enter Tryz.func42, Tryz.ntmps42
      go_wp2_with (first | (go_at_call 87; go_loud (refine HR.out.mono ?_; rintro e w1 ⟨rfl, rfl⟩)) | (go_at_call 88; go_loud (refine HCH.out.mono ?_; rintro e w1 ⟨g', cap', t', r, rfl, hmod, hfl, hwhat⟩; have HM := Aside.mk hmod; have HFL := Aside.mk hfl; have HW := Aside.mk hwhat; clear hmod hfl hwhat)))
      go_ret
      rcases HW.out with ⟨h1, h2, h3⟩ | ⟨h1, h2, h3⟩
      · rw [hs1.out, if_pos h1, h2]
        exact ⟨g', cap', rfl, (Mod.of_below HB.out m).trans HM.out, by rw [h3] at HFL; exact HFL.out⟩
      · rw [hs1.out, if_neg (by omega), h2]
        exact ⟨g', cap', rfl, (Mod.of_below HB.out m).trans HM.out, by rw [h3] at HFL; exact HFL.out⟩
    · have hs1 := Aside.mk (show s = (t, 1) by rw [HS.out, flatSet, if_neg (by rintro ⟨_, h⟩; exact hp h)])
      by_cases hp1 : phys < 0
      · go_enter Tryz.func42, Tryz.ntmps42
        go_wp2_with (go_at_call 87; go_loud (refine HR.out.mono ?_; rintro e w1 ⟨rfl, rfl⟩))
        go_ret
        rw [hs1.out]
        exact ⟨g, cap, rfl, Mod.of_below HB.out m, HF.out.below HB.out⟩
      · have hp2 : 1048576 < phys := by omega
        clear hp
        go_enter Tryz.func42, Tryz.ntmps42
        go_wp2_with (go_at_call 87; go_loud (refine HR.out.mono ?_; rintro e w1 ⟨rfl, rfl⟩))
        go_ret
        rw [hs1.out]
        exact ⟨g, cap, rfl, Mod.of_below HB.out m, HF.out.below HB.out⟩
end Fi
end Go.Proofs.YtjmhkcfdmcjilaaGreat
