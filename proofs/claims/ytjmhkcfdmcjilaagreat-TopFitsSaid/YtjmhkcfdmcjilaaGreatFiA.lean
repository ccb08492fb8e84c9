/-
  Walks: slices.Clone (of bytes, of ints), vint.Put, vint.PutInt.
-/
import Derived.Test.YtjmhkcfdmcjilaaGreatAiX
import Derived.WalkKit
set_option linter.unusedVariables false
set_option linter.unusedSimpArgs false
namespace Go.Proofs.YtjmhkcfdmcjilaaGreat
namespace Fi
open Go.RowKit Ai

theorem info3 : (Tryz.prog.info? 3).map (fun i => (i.zero, i.size, i.bytes)) = some (some (.int .i64 0), 1, 8) := by kernel_rfl
theorem info5 : (Tryz.prog.info? 5).map (fun i => (i.zero, i.size, i.bytes)) = some (some (.int .u8 0), 1, 1) := by kernel_rfl

theorem eq_nil_nil {P : Program} {t e : TypeId} (hu : P.underlying t = some (.slice e)) (w : World) : (binOp .eql t (.slice none 0 0) (.slice none 0 0)).run P w = .ok (.bool true) w := by
  show Sem.run P (do pure (Value.bool (← Op.equal t (.slice none 0 0) (.slice none 0 0)))) w = _
  rw [Sem.run_bind]
  have := (equal_run hu (q := true) (a := .slice none 0 0) (b := .slice none 0 0) (fun hu n w => by simp [Op.equalIn, run_underlying hu]) w)
  rw [this]
  rfl

theorem eq_some_nil {P : Program} {t e : TypeId} (hu : P.underlying t = some (.slice e)) (a : Addr) (n c : Nat) (w : World) : (binOp .eql t (.slice (some a) n c) (.slice none 0 0)).run P w = .ok (.bool false) w := by
  show Sem.run P (do pure (Value.bool (← Op.equal t (.slice (some a) n c) (.slice none 0 0)))) w = _
  rw [Sem.run_bind]
  have := (equal_run hu (q := false) (a := .slice (some a) n c) (b := .slice none 0 0) (fun hu n w => by simp [Op.equalIn, run_underlying hu]) w)
  rw [this]
  rfl

theorem one_new {w : World} {x : Value} {e : TypeId} {fr : Nat × Nat} : ∀ (j : Nat) (u : Value), [x][j]? = some u → (w.alloc (.cells #[x] e fr)).cell? ((⟨w.heap.size, 0, none⟩ : Addr).add j) = some u := by
  intro j u hj
  match j, hj with
  | 0, hj =>
    simp at hj
    subst hj
    rw [show (⟨w.heap.size, 0, none⟩ : Addr).add 0 = ⟨w.heap.size, 0, none⟩ from rfl, cell_of_row _ _ _ _ _ _ (heap_alloc_new w _)]
    rfl
  | j + 1, hj => simp at hj

set_option maxHeartbeats 1000000 in
set_option maxRecDepth 100000 in
theorem clone5_ok (w : World) (base n : Nat) (v : Value) (xs : List Value) (hown : w.ownsRow base 5 1 v n xs) (hn : n ≤ 100000) (h1 : ∀ u ∈ xs, u.oneCell' = true) :
    Calls Tryz.prog 91 #[v] w fun e w' => ∃ v', e = .returned v' ∧ w'.ownsRow w.heap.size 5 1 v' n xs ∧ Below w.heap.size w w' ∧ (v' = .slice none 0 0 ↔ v = .slice none 0 0) := by
  rcases hown.2 with ⟨rfl, rfl⟩ | ⟨g, cap, cur, rfl, hbg, hg, hnc, hcm, hcs, htake⟩
  · have hx : xs = [] := List.eq_nil_of_length_eq_zero (by simpa using hown.1)
    subst hx
    clear hown
    have heq := eq_nil_nil Tryz.underlying37 w
    go_enter Tryz.func91, Tryz.ntmps91
    go_wp2_with fail
    go_ret
    exact ⟨_, rfl, World.ownsRow_nil _ _ _ _, Below.refl _ _, ⟨fun _ => trivial, fun _ => rfl⟩⟩
  · have hcells : ∀ j u, xs[j]? = some u → w.cell? ((⟨g, 0, none⟩ : Addr).add j) = some u := hown.cells rfl
    have hlen : xs.length = n * 1 := hown.1
    have hlt : g < w.heap.size := (hown.lt g rfl).2
    have HC := Aside.mk hcells
    have HL := Aside.mk hlen
    have H1 := Aside.mk h1
    clear hcells hown hlen h1 hg hcs htake hnc hcm
    obtain ⟨i0, hi, hz0, hz1, hz2⟩ := info_parts info5
    have heq := eq_some_nil Tryz.underlying37 ⟨g, 0, none⟩ n cap w
    go_enter Tryz.func91, Tryz.ntmps91
    go_wp2_with (at_builtin; go_loud (refine wpList_append_own _ rfl (.tmp 5) (.tmp 6) 37 rfl w.heap.size 5 i0 (.int .u8 0) 1 1 Tryz.underlying37 hi hz0 hz1 hz2 rfl (by decide) (.slice (some ⟨w.heap.size, 0, none⟩) 0 0) 0 [] rfl (World.ownsRow_lit w #[] 0 (Nat.le_refl _) (by decide) rfl) ⟨g, 0, none⟩ n cap xs rfl HL.out (fun j u hj => (World.cell?_alloc_lt _ _ _ (by rw [add_addr]; exact hlt)).trans (HC.out j u hj)) H1.out (by unfold maxLen; omega) (by omega) (by simp) ?_; intro v' w1 hown1 hgrow1 hnil1))
    have HO := Aside.mk (show w1.ownsRow w.heap.size 5 1 v' n xs by simpa using hown1)
    have HB := Aside.mk (show Below w.heap.size w w1 from ((Below.refl w.heap.size w).alloc (Nat.le_refl _) _).grown hgrow1 (by simp) (fun k hk => by simp [Value.ownBlock] at hk; omega))
    have HN := Aside.mk (show v' ≠ .slice none 0 0 from fun e => by simpa using hnil1.1 e)
    clear hown1 hgrow1 hnil1
    go_wp2_with fail
    go_ret
    exact ⟨_, rfl, HO.out, HB.out, fun e => absurd e HN.out, fun e => by cases e⟩

set_option maxHeartbeats 1000000 in
set_option maxRecDepth 100000 in
theorem clone3_ok (w : World) (base n : Nat) (v : Value) (xs : List Value) (hown : w.ownsRow base 3 1 v n xs) (hn : n ≤ 100000) (h1 : ∀ u ∈ xs, u.oneCell' = true) :
    Calls Tryz.prog 103 #[v] w fun e w' => ∃ v', e = .returned v' ∧ w'.ownsRow w.heap.size 3 1 v' n xs ∧ Below w.heap.size w w' ∧ (v' = .slice none 0 0 ↔ v = .slice none 0 0) := by
  rcases hown.2 with ⟨rfl, rfl⟩ | ⟨g, cap, cur, rfl, hbg, hg, hnc, hcm, hcs, htake⟩
  · have hx : xs = [] := List.eq_nil_of_length_eq_zero (by simpa using hown.1)
    subst hx
    clear hown
    have heq := eq_nil_nil Tryz.underlying133 w
    go_enter Tryz.func103, Tryz.ntmps103
    go_wp2_with fail
    go_ret
    exact ⟨_, rfl, World.ownsRow_nil _ _ _ _, Below.refl _ _, ⟨fun _ => trivial, fun _ => rfl⟩⟩
  · have hcells : ∀ j u, xs[j]? = some u → w.cell? ((⟨g, 0, none⟩ : Addr).add j) = some u := hown.cells rfl
    have hlen : xs.length = n * 1 := hown.1
    have hlt : g < w.heap.size := (hown.lt g rfl).2
    have HC := Aside.mk hcells
    have HL := Aside.mk hlen
    have H1 := Aside.mk h1
    clear hcells hown hlen h1 hg hcs htake hnc hcm
    obtain ⟨i0, hi, hz0, hz1, hz2⟩ := info_parts info3
    have heq := eq_some_nil Tryz.underlying133 ⟨g, 0, none⟩ n cap w
    go_enter Tryz.func103, Tryz.ntmps103
    go_wp2_with (at_builtin; go_loud (refine wpList_append_own _ rfl (.tmp 5) (.tmp 6) 133 rfl w.heap.size 3 i0 (.int .i64 0) 1 8 Tryz.underlying133 hi hz0 hz1 hz2 rfl (by decide) (.slice (some ⟨w.heap.size, 0, none⟩) 0 0) 0 [] rfl (World.ownsRow_lit w #[] 0 (Nat.le_refl _) (by decide) rfl) ⟨g, 0, none⟩ n cap xs rfl HL.out (fun j u hj => (World.cell?_alloc_lt _ _ _ (by rw [add_addr]; exact hlt)).trans (HC.out j u hj)) H1.out (by unfold maxLen; omega) (by omega) (by simp) ?_; intro v' w1 hown1 hgrow1 hnil1))
    have HO := Aside.mk (show w1.ownsRow w.heap.size 3 1 v' n xs by simpa using hown1)
    have HB := Aside.mk (show Below w.heap.size w w1 from ((Below.refl w.heap.size w).alloc (Nat.le_refl _) _).grown hgrow1 (by simp) (fun k hk => by simp [Value.ownBlock] at hk; omega))
    have HN := Aside.mk (show v' ≠ .slice none 0 0 from fun e => by simpa using hnil1.1 e)
    clear hown1 hgrow1 hnil1
    go_wp2_with fail
    go_ret
    exact ⟨_, rfl, HO.out, HB.out, fun e => absurd e HN.out, fun e => by cases e⟩

/-- A number as bytes of seven bits, the lowest first. -/
def enc (v : Nat) : List Nat := if v < 128 then [v] else (v % 128 + 128) :: enc (v / 128)
decreasing_by omega

theorem enc_small {v : Nat} (h : v < 128) : enc v = [v] := by rw [enc, if_pos h]
theorem enc_great {v : Nat} (h : ¬ v < 128) : enc v = (v % 128 + 128) :: enc (v / 128) := by rw [enc, if_neg h]

theorem enc_length_le : ∀ (k v : Nat), v < 128 ^ (k + 1) → (enc v).length ≤ k + 1 := by
  intro k
  induction k with
  | zero => intro v h; rw [enc_small (by simpa using h)]; simp
  | succ k ih =>
    intro v h
    by_cases hv : v < 128
    · rw [enc_small hv]; simp
    · rw [enc_great hv]
      have := ih (v / 128) (by rw [Nat.pow_succ] at h; omega)
      simp only [List.length_cons]
      omega

theorem enc_pos (v : Nat) : 0 < (enc v).length := by
  rw [enc]; split <;> simp

def bytesV (l : List Nat) : List Value := l.map fun (x : Nat) => Value.int .u8 (x : Int)

theorem or128 (x : Nat) (h : x < 256) : bits .or .u8 (x : Int) 128 = ((x % 128 + 128 : Nat) : Int) := by
  have : ∀ x : Fin 256, bits .or .u8 ((x.val : Nat) : Int) 128 = ((x.val % 128 + 128 : Nat) : Int) := by decide +kernel
  exact this ⟨x, h⟩

theorem bytes_one (l : List Nat) : ∀ u ∈ bytesV l, u.oneCell' = true := by
  intro u hu
  simp only [bytesV, List.mem_map] at hu
  obtain ⟨x, _, rfl⟩ := hu
  rfl

set_option maxHeartbeats 1000000 in
set_option maxRecDepth 100000 in
theorem put_ok (w : World) (base n : Nat) (v : Value) (xs : List Nat) (x : Nat) (hown : w.ownsRow base 5 1 v n (bytesV xs)) (hn : n ≤ 50000) (hx : x < 18446744073709551616) :
    Calls Tryz.prog 45 #[v, .int .u64 x] w fun e w' => ∃ v', e = .returned v' ∧ w'.ownsRow w.heap.size 5 1 v' (n + (enc x).length) (bytesV (xs ++ enc x)) ∧ Below w.heap.size w w' := by
  have HO := Aside.mk hown
  have hel : (enc x).length ≤ 10 := enc_length_le 9 x (by omega)
  clear hown
  obtain ⟨i0, hi, hz0, hz1, hz2⟩ := info_parts info5
  go_enter Tryz.func45, Tryz.ntmps45
  go_wp2_with (go_at_call 91; refine (clone5_ok w base n v (bytesV xs) HO.out (by omega) (bytes_one xs)).mono ?_; rintro e w1 ⟨v1, rfl, hown1, hbel1, _⟩; have HO1 := Aside.mk hown1; have HB1 := Aside.mk hbel1; clear hown1 hbel1)
  go_loopw [0, 1] (fun v0 v1 wr => ∃ (y : Nat) (pre : List Nat), v1 = .int .u64 y ∧ Aside (enc x = pre ++ enc y ∧ wr.ownsRow w.heap.size 5 1 v0 (n + pre.length) (bytesV (xs ++ pre)) ∧ Below w.heap.size w wr) ∧ y < 18446744073709551616) (fun _ v1 _ => (intOf v1).toNat)
  case atStart => exact ⟨x, [], rfl, ⟨rfl, by simpa using HO1.out, HB1.out⟩, hx⟩
  case round =>
    obtain ⟨y, pre, rfl, HA, hy⟩ := hrel
    have hle : pre.length + 1 ≤ 10 := by
      have h1 := congrArg List.length HA.out.1
      have h2 := enc_pos y
      rw [List.length_append] at h1
      omega
    have hle2 : (bytesV (xs ++ pre)).length = n + pre.length := by have := HA.out.2.1.1; simpa using this
    have HLE2 := Aside.mk hle2
    clear hle2
    by_cases hlt : y < 128
    · have HE := Aside.mk (enc_small hlt)
      have hm : (y : Int) % 256 = (y : Int) := by omega
      go_wp2_with (at_builtin; go_loud (refine wpList_append_own _ rfl (.tmp 17) (.tmp 20) 37 rfl w.heap.size 5 i0 (.int .u8 0) 1 1 Tryz.underlying37 hi hz0 hz1 hz2 rfl (by decide) u0 (n + pre.length) (bytesV (xs ++ pre)) rfl (HA.out.2.1.alloc _) ⟨_, 0, none⟩ 1 1 [.int .u8 (y : Int)] rfl rfl one_new (by simp [Value.oneCell']) (by unfold maxLen; omega) (by omega) (by have := HA.out.2.2.size; simp; omega) ?_; intro v' w2 hown2 hgrow2 hnil2))
      have HR := Aside.mk (show w2.ownsRow w.heap.size 5 1 v' (n + (enc x).length) (bytesV (xs ++ enc x)) by
        rw [HA.out.1, HE.out]
        simpa [bytesV, Nat.add_assoc] using hown2)
      have HB2 := Aside.mk (show Below w.heap.size w w2 from (HA.out.2.2.alloc HA.out.2.2.size _).grown hgrow2 (by have := HA.out.2.2.size; simp; omega) (fun k hk => (HA.out.2.1.lt k hk).1))
      clear hown2 hgrow2 hnil2
      go_wp2_with fail
      go_ret
      exact ⟨_, rfl, HR.out, HB2.out⟩
    · have HE := Aside.mk (enc_great hlt)
      obtain ⟨q, hq⟩ : ∃ q : Nat, q = y % 128 + 128 := ⟨_, rfl⟩
      have hor : bits .or .u8 ((y : Int) % 256) 128 = (q : Int) := by
        have := or128 (y % 256) (by omega)
        have e : y % 256 % 128 = y % 128 := by omega
        rw [e, ← hq] at this
        rw [← this]
        congr 1
      have HQ := Aside.mk hq
      clear hq
      go_wp2_with (at_builtin; go_loud (refine wpList_append_own _ rfl (.tmp 11) (.tmp 15) 37 rfl w.heap.size 5 i0 (.int .u8 0) 1 1 Tryz.underlying37 hi hz0 hz1 hz2 rfl (by decide) u0 (n + pre.length) (bytesV (xs ++ pre)) rfl (HA.out.2.1.alloc _) ⟨_, 0, none⟩ 1 1 [.int .u8 (q : Int)] rfl rfl one_new (by simp [Value.oneCell']) (by unfold maxLen; omega) (by omega) (by have := HA.out.2.2.size; simp; omega) ?_; intro v' w2 hown2 hgrow2 hnil2))
      have HR := Aside.mk (show w2.ownsRow w.heap.size 5 1 v' (n + (pre ++ [y % 128 + 128]).length) (bytesV (xs ++ (pre ++ [y % 128 + 128]))) by
        rw [← HQ.out]
        simpa [bytesV, Nat.add_assoc] using hown2)
      have HB2 := Aside.mk (show Below w.heap.size w w2 from (HA.out.2.2.alloc HA.out.2.2.size _).grown hgrow2 (by have := HA.out.2.2.size; simp; omega) (fun k hk => (HA.out.2.1.lt k hk).1))
      have HS := Aside.mk (show enc x = (pre ++ [y % 128 + 128]) ++ enc (y / 128) by rw [HA.out.1, HE.out]; simp)
      clear hown2 hgrow2 hnil2 HA HE
      go_wp2_with fail
      go_roundw
      case rel => exact ⟨y / 128, _, by go_num, ⟨HS.out, HR.out, HB2.out⟩, by omega⟩
      case measure => simp [intOf]; omega
end Fi
end Go.Proofs.YtjmhkcfdmcjilaaGreat
