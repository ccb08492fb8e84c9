/-
  Walk of the flat map: Runs.
-/
import Derived.Test.YtjmhkcfdmcjilaaGreatFiG
/- Walk of the flat map: Runs. -/
set_option linter.unusedVariables false
set_option linter.unusedSimpArgs false
namespace Go.Proofs.YtjmhkcfdmcjilaaGreat
namespace Fi
open Go.RowKit Ai

theorem info94 : (Tryz.prog.info? 94).map (fun i => (i.zero, i.size, i.bytes)) = some (some (.agg #[(.int .i64 0), (.int .i64 0), (.int .i64 0)]), 3, 24) := by kernel_rfl

def runV : List Op3 → List Value
  | [] => []
  | x :: r => .int .i64 x.l :: .int .i64 x.n :: .int .i64 x.p :: runV r

theorem runV_length : ∀ xs : List Op3, (runV xs).length = xs.length * 3
  | [] => rfl
  | x :: r => by simp only [runV, List.length_cons, runV_length r]; omega

theorem runV_append : ∀ xs ys : List Op3, runV (xs ++ ys) = runV xs ++ runV ys
  | [], ys => rfl
  | x :: r, ys => by simp only [List.cons_append, runV, runV_append r ys]

theorem runV_get : ∀ (xs : List Op3) (i : Nat) (x : Op3), xs[i]? = some x → (runV xs)[i * 3]? = some (.int .i64 x.l) ∧ (runV xs)[i * 3 + 1]? = some (.int .i64 x.n) ∧ (runV xs)[i * 3 + 2]? = some (.int .i64 x.p)
  | [], i, x, h => by simp at h
  | y :: r, 0, x, h => by
    simp only [List.getElem?_cons_zero, Option.some.injEq] at h
    subst h
    exact ⟨rfl, rfl, rfl⟩
  | y :: r, i + 1, x, h => by
    simp only [List.getElem?_cons_succ] at h
    obtain ⟨h1, h2, h3⟩ := runV_get r i x h
    have e1 : (i + 1) * 3 = i * 3 + 3 := by omega
    have e2 : (i + 1) * 3 + 1 = (i * 3 + 1) + 3 := by omega
    have e3 : (i + 1) * 3 + 2 = (i * 3 + 2) + 3 := by omega
    rw [e1, show i * 3 + 3 + 1 = (i * 3 + 1) + 3 by omega, show i * 3 + 3 + 2 = (i * 3 + 2) + 3 by omega]
    simp only [runV, List.getElem?_cons_succ]
    exact ⟨h1, h2, h3⟩

theorem runV_set (ys : List Op3) (z : Op3) (n : Int) : (runV (ys ++ [z])).set (ys.length * 3 + 1) (.int .i64 n) = runV (ys ++ [⟨z.l, n, z.p⟩]) := by
  rw [runV_append, runV_append, List.set_append]
  rw [if_neg (by rw [runV_length]; omega), runV_length, show ys.length * 3 + 1 - ys.length * 3 = 1 by omega]
  rfl

theorem runV_one (xs : List Op3) : ∀ u ∈ runV xs, u.oneCell' = true := by
  induction xs with
  | nil => intro u hu; cases hu
  | cons x r ih =>
    intro u hu
    simp only [runV, List.mem_cons] at hu
    rcases hu with rfl | rfl | rfl | h
    · rfl
    · rfl
    · rfl
    · exact ih u h

/-- The last run made longer. -/
def longer : List Op3 → List Op3
  | [] => []
  | [z] => [⟨z.l, z.n + 1, z.p⟩]
  | z :: r => z :: longer r

theorem longer_append (ys : List Op3) (z : Op3) : longer (ys ++ [z]) = ys ++ [⟨z.l, z.n + 1, z.p⟩] := by
  induction ys with
  | nil => rfl
  | cons y r ih =>
    cases r with
    | nil => rfl
    | cons a r => simp only [List.cons_append, longer] at ih ⊢; rw [ih]

/-- The runs of the first sectors of a table. -/
def runsTo (t : List Int) : Nat → List Op3
  | 0 => []
  | k + 1 => if t.getD k (-1) < 0 then runsTo t k else if goes t k then longer (runsTo t k) else runsTo t k ++ [⟨k, 1, t.getD k (-1)⟩]

/-- What stands of the runs of the first sectors: they end ahead of k; the last one ends at k just where k - 1 is mapped. -/
structure RunInv (t : List Int) (k : Nat) (xs : List Op3) : Prop where
  each : ∀ x ∈ xs, 0 ≤ x.l ∧ 1 ≤ x.n ∧ x.l + x.n ≤ k ∧ 0 ≤ x.p ∧ x.p ≤ 2097152
  pair : ∀ (i : Nat) (a x : Op3), xs[i]? = some a → xs[i + 1]? = some x → a.n ≤ x.l - a.l ∧ ¬ (x.l - a.l = a.n ∧ x.p - a.p = a.n)
  last : ∀ (j : Nat) (y : Int), k = j + 1 → t[j]? = some y → 0 ≤ y → ∃ ys z, xs = ys ++ [z] ∧ z.l + z.n = (k : Int) ∧ z.p + z.n = y + 1
  hole : ∀ (j : Nat) (y : Int), k = j + 1 → t[j]? = some y → y < 0 → ∀ x ∈ xs, x.l + x.n < k

theorem pair_append {ys : List Op3} {z : Op3} (h : ∀ (i : Nat) (a x : Op3), ys[i]? = some a → ys[i + 1]? = some x → a.n ≤ x.l - a.l ∧ ¬ (x.l - a.l = a.n ∧ x.p - a.p = a.n))
    (hz : ∀ a, ys.getLast? = some a → a.n ≤ z.l - a.l ∧ ¬ (z.l - a.l = a.n ∧ z.p - a.p = a.n)) :
    ∀ (i : Nat) (a x : Op3), (ys ++ [z])[i]? = some a → (ys ++ [z])[i + 1]? = some x → a.n ≤ x.l - a.l ∧ ¬ (x.l - a.l = a.n ∧ x.p - a.p = a.n) := by
  intro i a x ha hx
  by_cases h1 : i + 1 < ys.length
  · rw [List.getElem?_append_left (by omega)] at ha
    rw [List.getElem?_append_left h1] at hx
    exact h i a x ha hx
  · have hlt := (List.getElem?_eq_some_iff.1 hx).1
    simp only [List.length_append, List.length_cons, List.length_nil] at hlt
    have h2 : i + 1 = ys.length := by omega
    rw [h2, List.getElem?_concat_length, Option.some.injEq] at hx
    subst hx
    rw [List.getElem?_append_left (by omega)] at ha
    refine hz a ?_
    rw [List.getLast?_eq_getElem?, ← h2]
    exact ha

theorem pair_left {ys : List Op3} {z : Op3} (h : ∀ (i : Nat) (a x : Op3), (ys ++ [z])[i]? = some a → (ys ++ [z])[i + 1]? = some x → a.n ≤ x.l - a.l ∧ ¬ (x.l - a.l = a.n ∧ x.p - a.p = a.n)) :
    (∀ (i : Nat) (a x : Op3), ys[i]? = some a → ys[i + 1]? = some x → a.n ≤ x.l - a.l ∧ ¬ (x.l - a.l = a.n ∧ x.p - a.p = a.n)) ∧ (∀ a, ys.getLast? = some a → a.n ≤ z.l - a.l ∧ ¬ (z.l - a.l = a.n ∧ z.p - a.p = a.n)) := by
  refine ⟨fun i a x ha hx => ?_, fun a ha => ?_⟩
  · have h1 := (List.getElem?_eq_some_iff.1 ha).1
    have h2 := (List.getElem?_eq_some_iff.1 hx).1
    exact h i a x (by rw [List.getElem?_append_left h1]; exact ha) (by rw [List.getElem?_append_left h2]; exact hx)
  · have hne : ys ≠ [] := by rintro rfl; cases ha
    rw [List.getLast?_eq_getElem?] at ha
    have hpos := List.length_pos_iff.2 hne
    exact h (ys.length - 1) a z (by rw [List.getElem?_append_left (by omega)]; exact ha) (by rw [show ys.length - 1 + 1 = ys.length by omega, List.getElem?_concat_length])

theorem runInv {t : List Int} (ht : okTab t) : ∀ k, k ≤ t.length → RunInv t k (runsTo t k)
  | 0, _ => ⟨(fun x h => by cases h), (fun i a x h => by simp [runsTo] at h), (fun j y h => by omega), (fun j y h => by omega)⟩
  | k + 1, hk => by
    have ih := runInv ht k (by omega)
    obtain ⟨p, hp⟩ : ∃ p, t[k]? = some p := ⟨_, List.getElem?_eq_getElem (by omega)⟩
    have hpb := ht p (List.mem_of_getElem? hp)
    have hg : t.getD k (-1) = p := by rw [List.getD_eq_getElem?_getD, hp]; rfl
    rw [runsTo, hg]
    by_cases h1 : p < 0
    · rw [if_pos h1]
      refine ⟨fun x hx => ?_, ih.pair, fun j y hj hy h0 => ?_, fun j y hj hy h0 x hx => ?_⟩
      · have := ih.each x hx; omega
      · obtain rfl : j = k := by omega
        rw [hp] at hy; cases hy; omega
      · have := ih.each x hx; omega
    · rw [if_neg h1]
      by_cases h2 : goes t k = true
      · rw [if_pos h2]
        cases k with
        | zero => simp [goes] at h2
        | succ j =>
          obtain ⟨y, hy⟩ : ∃ y, t[j]? = some y := ⟨_, List.getElem?_eq_getElem (by omega)⟩
          rw [goes_succ hp hy, decide_eq_true_eq] at h2
          obtain ⟨ys, z, e, hz1, hz2⟩ := ih.last j y rfl hy h2.2.1
          rw [e, longer_append]
          have hpr := pair_left (by rw [← e]; exact ih.pair)
          have hze := ih.each z (by rw [e]; simp)
          refine ⟨fun x hx => ?_, pair_append hpr.1 (fun a ha => hpr.2 a ha), fun i q hi hq h0 => ?_, fun i q hi hq h0 => ?_⟩
          · simp only [List.mem_append, List.mem_singleton] at hx
            rcases hx with hx | rfl
            · have := ih.each x (by rw [e]; simp [hx]); omega
            · simp only; omega
          · obtain rfl : i = j + 1 := by omega
            rw [hp] at hq; cases hq
            exact ⟨ys, _, rfl, by simp only; omega, by simp only; omega⟩
          · obtain rfl : i = j + 1 := by omega
            rw [hp] at hq; cases hq; omega
      · rw [if_neg h2]
        refine ⟨fun x hx => ?_, pair_append ih.pair (fun a ha => ?_), fun i q hi hq h0 => ?_, fun i q hi hq h0 => ?_⟩
        · simp only [List.mem_append, List.mem_singleton] at hx
          rcases hx with hx | rfl
          · have := ih.each x hx; omega
          · simp only; omega
        · have hmem : a ∈ runsTo t k := List.mem_of_getLast? ha
          have hae := ih.each a hmem
          simp only
          refine ⟨by omega, fun ⟨e1, e2⟩ => ?_⟩
          cases k with
          | zero => omega
          | succ j =>
            obtain ⟨y, hy⟩ : ∃ y, t[j]? = some y := ⟨_, List.getElem?_eq_getElem (by omega)⟩
            by_cases h0 : 0 ≤ y
            · obtain ⟨ys, z, e, hz1, hz2⟩ := ih.last j y rfl hy h0
              rw [e, List.getLast?_concat, Option.some.injEq] at ha
              subst ha
              apply h2
              rw [goes_succ hp hy, decide_eq_true_eq]
              omega
            · have := ih.hole j y rfl hy (by omega) a hmem
              omega
        · obtain rfl : i = k := by omega
          rw [hp] at hq; cases hq
          exact ⟨_, _, rfl, by simp only; omega, by simp only⟩
        · obtain rfl : i = k := by omega
          rw [hp] at hq; cases hq; omega

theorem runsTo_length (t : List Int) : ∀ k, (runsTo t k).length ≤ k
  | 0 => Nat.le_refl _
  | k + 1 => by
    rw [runsTo]
    have := runsTo_length t k
    have hl : ∀ xs : List Op3, (longer xs).length = xs.length := by
      intro xs
      induction xs with
      | nil => rfl
      | cons x r ih => cases r with
        | nil => rfl
        | cons a r => simp only [longer, List.length_cons] at ih ⊢; omega
    split
    · omega
    · split
      · rw [hl]; omega
      · simp; omega
end Fi
end Go.Proofs.YtjmhkcfdmcjilaaGreat
set_option linter.unusedVariables false
set_option linter.unusedSimpArgs false
namespace Go.Proofs.YtjmhkcfdmcjilaaGreat
namespace Fi
open Go.RowKit Ai

theorem three_new {w : World} {x y z : Value} {e : TypeId} {fr : Nat × Nat} : ∀ (j : Nat) (u : Value), [x, y, z][j]? = some u → (w.alloc (.cells #[x, y, z] e fr)).cell? ((⟨w.heap.size, 0, none⟩ : Addr).add j) = some u := by
  intro j u hj
  rw [add_addr, cell_of_row _ _ _ _ _ _ (heap_alloc_new w _), Nat.zero_add]
  simpa using hj

theorem runs_step1 {t : List Int} {k : Nat} {p : Int} (hp : t[k]? = some p) (h : p < 0) : runsTo t (k + 1) = runsTo t k := by
  rw [runsTo, List.getD_eq_getElem?_getD, hp, Option.getD_some, if_pos h]
theorem runs_step2 {t : List Int} {k : Nat} {p : Int} (hp : t[k]? = some p) (h : ¬ p < 0) (hg : goes t k = true) : runsTo t (k + 1) = longer (runsTo t k) := by
  rw [runsTo, List.getD_eq_getElem?_getD, hp, Option.getD_some, if_neg h, if_pos hg]
theorem runs_step3 {t : List Int} {k : Nat} {p : Int} (hp : t[k]? = some p) (h : ¬ p < 0) (hg : goes t k = false) : runsTo t (k + 1) = runsTo t k ++ [⟨k, 1, p⟩] := by
  rw [runsTo, List.getD_eq_getElem?_getD, hp, Option.getD_some, if_neg h, if_neg (by rw [hg]; simp)]

theorem goes_last {t : List Int} (ht : okTab t) {k : Nat} (hk : k < t.length) (hg : goes t k = true) : ∃ ys z, runsTo t k = ys ++ [z] ∧ -4194304 ≤ z.n ∧ z.n ≤ 4194304 := by
  have ih := runInv ht k (by omega)
  cases k with
  | zero => simp [goes] at hg
  | succ j =>
    obtain ⟨p, hp⟩ : ∃ p, t[j + 1]? = some p := ⟨_, List.getElem?_eq_getElem (by omega)⟩
    obtain ⟨y, hy⟩ : ∃ y, t[j]? = some y := ⟨_, List.getElem?_eq_getElem (by omega)⟩
    rw [goes_succ hp hy, decide_eq_true_eq] at hg
    obtain ⟨ys, z, e, hz1, hz2⟩ := ih.last j y rfl hy hg.2.1
    have hz := ih.each z (by rw [e]; simp)
    have hpb := ht y (List.mem_of_getElem? hy)
    exact ⟨ys, z, e, by omega, by omega⟩

set_option maxHeartbeats 4000000 in
set_option maxRecDepth 100000 in
theorem runs_ok (w : World) (m : Nat) (most : Int) (g cap : Nat) (t : List Int) (hF : Flat w m most g cap t) (ho : okTab t) (hl : t.length ≤ 512) :
    Calls Tryz.prog 43 #[.pointer (some ⟨m, 0, none⟩)] w fun e w' => ∃ v', e = .returned v' ∧ w'.ownsRow w.heap.size 94 3 v' (runsTo t t.length).length (runV (runsTo t t.length)) ∧ Below w.heap.size w w' := by
  obtain ⟨hc0, hc1⟩ := hF.cells
  have hm := hF.ltm
  have HG := Aside.mk (fun (W : World) (hW : Below w.heap.size w W) (i : Nat) (hi : i < t.length) => goes_ok W g cap t i (hF.tab.below hW) ho hi hl)
  have HGL := Aside.mk (fun (k : Nat) (hk : k < t.length) (hg : goes t k = true) => goes_last ho hk hg)
  obtain ⟨n, hln⟩ : ∃ n, n = t.length := ⟨_, rfl⟩
  rw [← hln] at hl HG HGL hc1
  rw [← hln]
  have HLN := Aside.mk hln
  have HF := Aside.mk hF
  have HO := Aside.mk ho
  clear hln hF ho
  obtain ⟨i0, hi, hz0, hz1, hz2⟩ := info_parts info94
  go_enter Tryz.func43, Tryz.ntmps43
  go_wp2_with fail
  go_loopw [3, 11] (fun v3 v11 wr => ∃ (k : Nat), k ≤ n ∧ v11 = .int .i64 k ∧ Aside (wr.ownsRow w.heap.size 94 3 v3 (runsTo t k).length (runV (runsTo t k)) ∧ Below w.heap.size w wr)) (fun _ v11 _ => n - (intOf v11).toNat)
  case atStart => exact ⟨0, by omega, rfl, ⟨World.ownsRow_nil _ _ _ _, Below.refl _ _⟩⟩
  case round =>
    obtain ⟨k, hk, rfl, HR⟩ := hrel
    by_cases hlt : k < n
    · obtain ⟨p, hp⟩ : ∃ p, t[k]? = some p := ⟨_, List.getElem?_eq_getElem (by rw [← HLN.out]; exact hlt)⟩
      have hw0 := (HF.out.tab.below HR.out.2).2 _ _ hp
      have hcb1 : wr.cell? ⟨m, 1, none⟩ = some (.slice (some ⟨g, 0, none⟩) n cap) := by rw [HR.out.2.cell hm]; exact hc1
      have HP := Aside.mk hp
      have hlen : (runsTo t k).length ≤ k := runsTo_length t k
      clear hp
      by_cases h1 : p < 0
      · have HS := Aside.mk (runs_step1 HP.out h1)
        go_wp2_with fail
        go_roundw
        case rel => exact ⟨k + 1, by omega, by go_num, ⟨by rw [HS.out]; exact HR.out.1, HR.out.2⟩⟩
        case measure => simp [intOf]; omega
      · have HCALL := Aside.mk (HG.out wr HR.out.2 k hlt)
        obtain ⟨q, hq⟩ : ∃ q, q = goes t k := ⟨_, rfl⟩
        rw [← hq] at HCALL
        cases q with
        | true =>
          have HS := Aside.mk (runs_step2 HP.out h1 hq.symm)
          obtain ⟨ys, z, hyz, hz5, hz6⟩ := HGL.out k hlt hq.symm
          rw [hyz] at HR HS hlen
          clear hq hyz
          obtain ⟨g', cap', rfl⟩ : ∃ g' cap', u3 = .slice (some ⟨g', 0, none⟩) (ys.length + 1) cap' := by
            rcases HR.out.1.2 with ⟨h1, h2⟩ | ⟨g', cap', cur, h1, _⟩
            · simp at h2
            · exact ⟨g', cap', by rw [h1]; simp⟩
          have HR1 := Aside.mk (show wr.ownsRow w.heap.size 94 3 (.slice (some ⟨g', 0, none⟩) (ys.length + 1) cap') (ys.length + 1) (runV (ys ++ [z])) by simpa using HR.out.1)
          have HGW := Aside.mk (HR1.out.lt g' rfl).1
          have HRB := Aside.mk HR.out.2
          clear HR
          have hcell : ∀ (r : Nat), (wr.drewN r).cell? ⟨g', ys.length * 3 + 1, none⟩ = some (.int .i64 z.n) := fun r => by
            show wr.cell? _ = _
            rw [HR1.out.cellAt (ys.length * 3 + 1) (by omega)]
            exact (runV_get (ys ++ [z]) ys.length z (by simp)).2.1
          have hfz : ∀ (r : Nat), (wr.drewN r).frozen? ⟨g', ys.length * 3 + 1, none⟩ = false := fun r => HR1.out.frozenAt _
          have hs1 : (ys.length : Int) < (ys.length : Int) + 1 := by omega
          simp only [List.length_append, List.length_cons, List.length_nil, Nat.zero_add] at hlen
          go_wp2_with (go_at_call 90; go_loud (refine HCALL.out.mono ?_; rintro e w1 ⟨rfl, q, rfl⟩; have hce := hcell q; have hfe := hfz q; clear hcell hfz))
          have HST := Aside.mk (show ((wr.drewN q).setCell ⟨g', ys.length * 3 + 1, none⟩ (.int .i64 (z.n + 1))).ownsRow w.heap.size 94 3 (.slice (some ⟨g', 0, none⟩) (ys.length + 1) cap') (ys.length + 1) (runV (ys ++ [⟨z.l, z.n + 1, z.p⟩])) by
            rw [← runV_set]
            exact ((own_drewN HR1.out q).stored (ys.length * 3 + 1) _).1)
          go_roundw
          case rel => exact ⟨k + 1, by omega, by go_num, ⟨by rw [HS.out, longer_append]; simpa using HST.out, (below_drewN HRB.out q).setCell (p := ⟨g', ys.length * 3 + 1, none⟩) HGW.out _⟩⟩
          case measure => simp [intOf]; omega
        | false =>
          have HS := Aside.mk (runs_step3 HP.out h1 hq.symm)
          clear hq
          obtain ⟨L, hL⟩ : ∃ L, L = (runsTo t k).length := ⟨_, rfl⟩
          rw [← hL] at hlen
          have HR1 := Aside.mk (show wr.ownsRow w.heap.size 94 3 u3 L (runV (runsTo t k)) by rw [hL]; exact HR.out.1)
          have HRB := Aside.mk HR.out.2
          have HL := Aside.mk hL
          clear HR hL
          go_wp2_with (first | (go_at_call 90; go_loud (refine HCALL.out.mono ?_; rintro e w1 ⟨rfl, q, rfl⟩)) | (at_builtin; go_loud (refine wpList_append_own _ rfl (.tmp 16) (.tmp 20) 33 rfl w.heap.size 94 i0 (.agg #[(.int .i64 0), (.int .i64 0), (.int .i64 0)]) 3 24 Tryz.underlying33 hi hz0 hz1 hz2 rfl (by decide) u3 L (runV (runsTo t k)) rfl ((own_drewN HR1.out _).alloc _) ⟨wr.heap.size, 0, none⟩ 1 1 [.int .i64 k, .int .i64 1, .int .i64 p] rfl rfl three_new (by simp [Value.oneCell']) (by unfold maxLen; omega) (by omega) (by have := HRB.out.size; simp; omega) ?_; intro v' w2 hown2 hgrow2 hnil2)))
          have HB2 := Aside.mk (show Below w.heap.size w w2 from ((below_drewN HRB.out _).alloc HRB.out.size _).grown hgrow2 (by have := HRB.out.size; simp; omega) (fun j hj => (HR1.out.lt j hj).1))
          have HO2 := Aside.mk (show w2.ownsRow w.heap.size 94 3 v' (runsTo t (k + 1)).length (runV (runsTo t (k + 1))) by
            rw [HS.out, runV_append, List.length_append, ← HL.out]; exact hown2)
          clear hown2 hgrow2 hnil2
          go_wp2_with fail
          go_roundw
          case rel => exact ⟨k + 1, by omega, by go_num, ⟨HO2.out, HB2.out⟩⟩
          case measure => simp [intOf]; omega
    · have hkn : k = n := by omega
      subst hkn
      go_wp2_with fail
      go_ret
      exact ⟨_, rfl, HR.out.1, HR.out.2⟩
end Fi
end Go.Proofs.YtjmhkcfdmcjilaaGreat
