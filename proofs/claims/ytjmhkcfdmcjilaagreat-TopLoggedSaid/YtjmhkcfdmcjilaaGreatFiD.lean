/-
  Walks: span.Form and delta.Snapshot of runs in their form.
-/
import Derived.Test.YtjmhkcfdmcjilaaGreatAiX
import Derived.WalkKit
/- Walks: vint.PutInt, delta.right, delta.Record. -/
/- Walks: slices.Clone (of bytes, of ints), vint.Put, vint.PutInt. -/
set_option linter.unusedVariables false
set_option linter.unusedSimpArgs false
namespace Go.Proofs.YtjmhkcfdmcjilaaGreat
namespace Fi
open Go.RowKit Ai

theorem info3 : (Tryz.prog.info? 3).map (fun i => (i.zero, i.size, i.bytes)) = some (some (.int .i64 0), 1, 8) := by kernel_rfl
theorem info5 : (Tryz.prog.info? 5).map (fun i => (i.zero, i.size, i.bytes)) = some (some (.int .u8 0), 1, 1) := by kernel_rfl

theorem eq_nil_nil {P : Program} {t e : TypeId} (hu : P.underlying t = some (.slice e)) (w : World) : (binOp .eql t (.slice none 0 0) (.slice none 0 0)).run P w = .ok (.bool true) w := by
  show Sem.run P (do pure (Value.bool (← Op.equal t (.slice none 0 0) (.slice none 0 0)))) w = _
  rw [Sem.run_bind]
  have := (equal_run hu (q := true) (a := .slice none 0 0) (b := .slice none 0 0) (fun hu n w => by simp [Op.equalIn, run_underlying hu]) w)
  rw [this]
  rfl

theorem eq_some_nil {P : Program} {t e : TypeId} (hu : P.underlying t = some (.slice e)) (a : Addr) (n c : Nat) (w : World) : (binOp .eql t (.slice (some a) n c) (.slice none 0 0)).run P w = .ok (.bool false) w := by
  show Sem.run P (do pure (Value.bool (← Op.equal t (.slice (some a) n c) (.slice none 0 0)))) w = _
  rw [Sem.run_bind]
  have := (equal_run hu (q := false) (a := .slice (some a) n c) (b := .slice none 0 0) (fun hu n w => by simp [Op.equalIn, run_underlying hu]) w)
  rw [this]
  rfl

theorem one_new {w : World} {x : Value} {e : TypeId} {fr : Nat × Nat} : ∀ (j : Nat) (u : Value), [x][j]? = some u → (w.alloc (.cells #[x] e fr)).cell? ((⟨w.heap.size, 0, none⟩ : Addr).add j) = some u := by
  intro j u hj
  match j, hj with
  | 0, hj =>
    simp at hj
    subst hj
    rw [show (⟨w.heap.size, 0, none⟩ : Addr).add 0 = ⟨w.heap.size, 0, none⟩ from rfl, cell_of_row _ _ _ _ _ _ (heap_alloc_new w _)]
    rfl
  | j + 1, hj => simp at hj

set_option maxHeartbeats 1000000 in
set_option maxRecDepth 100000 in
theorem clone5_ok (w : World) (base n : Nat) (v : Value) (xs : List Value) (hown : w.ownsRow base 5 1 v n xs) (hn : n ≤ 100000) (h1 : ∀ u ∈ xs, u.oneCell' = true) :
    Calls Tryz.prog 91 #[v] w fun e w' => ∃ v', e = .returned v' ∧ w'.ownsRow w.heap.size 5 1 v' n xs ∧ Below w.heap.size w w' ∧ (v' = .slice none 0 0 ↔ v = .slice none 0 0) := by
  rcases hown.2 with ⟨rfl, rfl⟩ | ⟨g, cap, cur, rfl, hbg, hg, hnc, hcm, hcs, htake⟩
  · have hx : xs = [] := List.eq_nil_of_length_eq_zero (by simpa using hown.1)
    subst hx
    clear hown
    have heq := eq_nil_nil Tryz.underlying37 w
    go_enter Tryz.func91, Tryz.ntmps91
    go_wp2_with fail
    go_ret
    exact ⟨_, rfl, World.ownsRow_nil _ _ _ _, Below.refl _ _, ⟨fun _ => trivial, fun _ => rfl⟩⟩
  · have hcells : ∀ j u, xs[j]? = some u → w.cell? ((⟨g, 0, none⟩ : Addr).add j) = some u := hown.cells rfl
    have hlen : xs.length = n * 1 := hown.1
    have hlt : g < w.heap.size := (hown.lt g rfl).2
    have HC := Aside.mk hcells
    have HL := Aside.mk hlen
    have H1 := Aside.mk h1
    clear hcells hown hlen h1 hg hcs htake hnc hcm
    obtain ⟨i0, hi, hz0, hz1, hz2⟩ := info_parts info5
    have heq := eq_some_nil Tryz.underlying37 ⟨g, 0, none⟩ n cap w
    go_enter Tryz.func91, Tryz.ntmps91
    go_wp2_with (at_builtin; go_loud (refine wpList_append_own _ rfl (.tmp 5) (.tmp 6) 37 rfl w.heap.size 5 i0 (.int .u8 0) 1 1 Tryz.underlying37 hi hz0 hz1 hz2 rfl (by decide) (.slice (some ⟨w.heap.size, 0, none⟩) 0 0) 0 [] rfl (World.ownsRow_lit w #[] 0 (Nat.le_refl _) (by decide) rfl) ⟨g, 0, none⟩ n cap xs rfl HL.out (fun j u hj => (World.cell?_alloc_lt _ _ _ (by rw [add_addr]; exact hlt)).trans (HC.out j u hj)) H1.out (by unfold maxLen; omega) (by omega) (by simp) ?_; intro v' w1 hown1 hgrow1 hnil1))
    have HO := Aside.mk (show w1.ownsRow w.heap.size 5 1 v' n xs by simpa using hown1)
    have HB := Aside.mk (show Below w.heap.size w w1 from ((Below.refl w.heap.size w).alloc (Nat.le_refl _) _).grown hgrow1 (by simp) (fun k hk => by simp [Value.ownBlock] at hk; omega))
    have HN := Aside.mk (show v' ≠ .slice none 0 0 from fun e => by simpa using hnil1.1 e)
    clear hown1 hgrow1 hnil1
    go_wp2_with fail
    go_ret
    exact ⟨_, rfl, HO.out, HB.out, fun e => absurd e HN.out, fun e => by cases e⟩

set_option maxHeartbeats 1000000 in
set_option maxRecDepth 100000 in
theorem clone3_ok (w : World) (base n : Nat) (v : Value) (xs : List Value) (hown : w.ownsRow base 3 1 v n xs) (hn : n ≤ 100000) (h1 : ∀ u ∈ xs, u.oneCell' = true) :
    Calls Tryz.prog 103 #[v] w fun e w' => ∃ v', e = .returned v' ∧ w'.ownsRow w.heap.size 3 1 v' n xs ∧ Below w.heap.size w w' ∧ (v' = .slice none 0 0 ↔ v = .slice none 0 0) := by
  rcases hown.2 with ⟨rfl, rfl⟩ | ⟨g, cap, cur, rfl, hbg, hg, hnc, hcm, hcs, htake⟩
  · have hx : xs = [] := List.eq_nil_of_length_eq_zero (by simpa using hown.1)
    subst hx
    clear hown
    have heq := eq_nil_nil Tryz.underlying133 w
    go_enter Tryz.func103, Tryz.ntmps103
    go_wp2_with fail
    go_ret
    exact ⟨_, rfl, World.ownsRow_nil _ _ _ _, Below.refl _ _, ⟨fun _ => trivial, fun _ => rfl⟩⟩
  · have hcells : ∀ j u, xs[j]? = some u → w.cell? ((⟨g, 0, none⟩ : Addr).add j) = some u := hown.cells rfl
    have hlen : xs.length = n * 1 := hown.1
    have hlt : g < w.heap.size := (hown.lt g rfl).2
    have HC := Aside.mk hcells
    have HL := Aside.mk hlen
    have H1 := Aside.mk h1
    clear hcells hown hlen h1 hg hcs htake hnc hcm
    obtain ⟨i0, hi, hz0, hz1, hz2⟩ := info_parts info3
    have heq := eq_some_nil Tryz.underlying133 ⟨g, 0, none⟩ n cap w
    go_enter Tryz.func103, Tryz.ntmps103
    go_wp2_with (at_builtin; go_loud (refine wpList_append_own _ rfl (.tmp 5) (.tmp 6) 133 rfl w.heap.size 3 i0 (.int .i64 0) 1 8 Tryz.underlying133 hi hz0 hz1 hz2 rfl (by decide) (.slice (some ⟨w.heap.size, 0, none⟩) 0 0) 0 [] rfl (World.ownsRow_lit w #[] 0 (Nat.le_refl _) (by decide) rfl) ⟨g, 0, none⟩ n cap xs rfl HL.out (fun j u hj => (World.cell?_alloc_lt _ _ _ (by rw [add_addr]; exact hlt)).trans (HC.out j u hj)) H1.out (by unfold maxLen; omega) (by omega) (by simp) ?_; intro v' w1 hown1 hgrow1 hnil1))
    have HO := Aside.mk (show w1.ownsRow w.heap.size 3 1 v' n xs by simpa using hown1)
    have HB := Aside.mk (show Below w.heap.size w w1 from ((Below.refl w.heap.size w).alloc (Nat.le_refl _) _).grown hgrow1 (by simp) (fun k hk => by simp [Value.ownBlock] at hk; omega))
    have HN := Aside.mk (show v' ≠ .slice none 0 0 from fun e => by simpa using hnil1.1 e)
    clear hown1 hgrow1 hnil1
    go_wp2_with fail
    go_ret
    exact ⟨_, rfl, HO.out, HB.out, fun e => absurd e HN.out, fun e => by cases e⟩

/-- A number as bytes of seven bits, the lowest first. -/
def enc (v : Nat) : List Nat := if v < 128 then [v] else (v % 128 + 128) :: enc (v / 128)
decreasing_by omega

theorem enc_small {v : Nat} (h : v < 128) : enc v = [v] := by rw [enc, if_pos h]
theorem enc_great {v : Nat} (h : ¬ v < 128) : enc v = (v % 128 + 128) :: enc (v / 128) := by rw [enc, if_neg h]

theorem enc_length_le : ∀ (k v : Nat), v < 128 ^ (k + 1) → (enc v).length ≤ k + 1 := by
  intro k
  induction k with
  | zero => intro v h; rw [enc_small (by simpa using h)]; simp
  | succ k ih =>
    intro v h
    by_cases hv : v < 128
    · rw [enc_small hv]; simp
    · rw [enc_great hv]
      have := ih (v / 128) (by rw [Nat.pow_succ] at h; omega)
      simp only [List.length_cons]
      omega

theorem enc_pos (v : Nat) : 0 < (enc v).length := by
  rw [enc]; split <;> simp

def bytesV (l : List Nat) : List Value := l.map fun (x : Nat) => Value.int .u8 (x : Int)

theorem or128 (x : Nat) (h : x < 256) : bits .or .u8 (x : Int) 128 = ((x % 128 + 128 : Nat) : Int) := by
  have : ∀ x : Fin 256, bits .or .u8 ((x.val : Nat) : Int) 128 = ((x.val % 128 + 128 : Nat) : Int) := by decide +kernel
  exact this ⟨x, h⟩

theorem bytes_one (l : List Nat) : ∀ u ∈ bytesV l, u.oneCell' = true := by
  intro u hu
  simp only [bytesV, List.mem_map] at hu
  obtain ⟨x, _, rfl⟩ := hu
  rfl

set_option maxHeartbeats 1000000 in
set_option maxRecDepth 100000 in
theorem put_ok (w : World) (base n : Nat) (v : Value) (xs : List Nat) (x : Nat) (hown : w.ownsRow base 5 1 v n (bytesV xs)) (hn : n ≤ 50000) (hx : x < 18446744073709551616) :
    Calls Tryz.prog 45 #[v, .int .u64 x] w fun e w' => ∃ v', e = .returned v' ∧ w'.ownsRow w.heap.size 5 1 v' (n + (enc x).length) (bytesV (xs ++ enc x)) ∧ Below w.heap.size w w' := by
  have HO := Aside.mk hown
  have hel : (enc x).length ≤ 10 := enc_length_le 9 x (by omega)
  clear hown
  obtain ⟨i0, hi, hz0, hz1, hz2⟩ := info_parts info5
  go_enter Tryz.func45, Tryz.ntmps45
  go_wp2_with (go_at_call 91; refine (clone5_ok w base n v (bytesV xs) HO.out (by omega) (bytes_one xs)).mono ?_; rintro e w1 ⟨v1, rfl, hown1, hbel1, _⟩; have HO1 := Aside.mk hown1; have HB1 := Aside.mk hbel1; clear hown1 hbel1)
  go_loopw [0, 1] (fun v0 v1 wr => ∃ (y : Nat) (pre : List Nat), v1 = .int .u64 y ∧ Aside (enc x = pre ++ enc y ∧ wr.ownsRow w.heap.size 5 1 v0 (n + pre.length) (bytesV (xs ++ pre)) ∧ Below w.heap.size w wr) ∧ y < 18446744073709551616) (fun _ v1 _ => (intOf v1).toNat)
  case atStart => exact ⟨x, [], rfl, ⟨rfl, by simpa using HO1.out, HB1.out⟩, hx⟩
  case round =>
    obtain ⟨y, pre, rfl, HA, hy⟩ := hrel
    have hle : pre.length + 1 ≤ 10 := by
      have h1 := congrArg List.length HA.out.1
      have h2 := enc_pos y
      rw [List.length_append] at h1
      omega
    have hle2 : (bytesV (xs ++ pre)).length = n + pre.length := by have := HA.out.2.1.1; simpa using this
    have HLE2 := Aside.mk hle2
    clear hle2
    by_cases hlt : y < 128
    · have HE := Aside.mk (enc_small hlt)
      have hm : (y : Int) % 256 = (y : Int) := by omega
      go_wp2_with (at_builtin; go_loud (refine wpList_append_own _ rfl (.tmp 17) (.tmp 20) 37 rfl w.heap.size 5 i0 (.int .u8 0) 1 1 Tryz.underlying37 hi hz0 hz1 hz2 rfl (by decide) u0 (n + pre.length) (bytesV (xs ++ pre)) rfl (HA.out.2.1.alloc _) ⟨_, 0, none⟩ 1 1 [.int .u8 (y : Int)] rfl rfl one_new (by simp [Value.oneCell']) (by unfold maxLen; omega) (by omega) (by have := HA.out.2.2.size; simp; omega) ?_; intro v' w2 hown2 hgrow2 hnil2))
      have HR := Aside.mk (show w2.ownsRow w.heap.size 5 1 v' (n + (enc x).length) (bytesV (xs ++ enc x)) by
        rw [HA.out.1, HE.out]
        simpa [bytesV, Nat.add_assoc] using hown2)
      have HB2 := Aside.mk (show Below w.heap.size w w2 from (HA.out.2.2.alloc HA.out.2.2.size _).grown hgrow2 (by have := HA.out.2.2.size; simp; omega) (fun k hk => (HA.out.2.1.lt k hk).1))
      clear hown2 hgrow2 hnil2
      go_wp2_with fail
      go_ret
      exact ⟨_, rfl, HR.out, HB2.out⟩
    · have HE := Aside.mk (enc_great hlt)
      obtain ⟨q, hq⟩ : ∃ q : Nat, q = y % 128 + 128 := ⟨_, rfl⟩
      have hor : bits .or .u8 ((y : Int) % 256) 128 = (q : Int) := by
        have := or128 (y % 256) (by omega)
        have e : y % 256 % 128 = y % 128 := by omega
        rw [e, ← hq] at this
        rw [← this]
        congr 1
      have HQ := Aside.mk hq
      clear hq
      go_wp2_with (at_builtin; go_loud (refine wpList_append_own _ rfl (.tmp 11) (.tmp 15) 37 rfl w.heap.size 5 i0 (.int .u8 0) 1 1 Tryz.underlying37 hi hz0 hz1 hz2 rfl (by decide) u0 (n + pre.length) (bytesV (xs ++ pre)) rfl (HA.out.2.1.alloc _) ⟨_, 0, none⟩ 1 1 [.int .u8 (q : Int)] rfl rfl one_new (by simp [Value.oneCell']) (by unfold maxLen; omega) (by omega) (by have := HA.out.2.2.size; simp; omega) ?_; intro v' w2 hown2 hgrow2 hnil2))
      have HR := Aside.mk (show w2.ownsRow w.heap.size 5 1 v' (n + (pre ++ [y % 128 + 128]).length) (bytesV (xs ++ (pre ++ [y % 128 + 128]))) by
        rw [← HQ.out]
        simpa [bytesV, Nat.add_assoc] using hown2)
      have HB2 := Aside.mk (show Below w.heap.size w w2 from (HA.out.2.2.alloc HA.out.2.2.size _).grown hgrow2 (by have := HA.out.2.2.size; simp; omega) (fun k hk => (HA.out.2.1.lt k hk).1))
      have HS := Aside.mk (show enc x = (pre ++ [y % 128 + 128]) ++ enc (y / 128) by rw [HA.out.1, HE.out]; simp)
      clear hown2 hgrow2 hnil2 HA HE
      go_wp2_with fail
      go_roundw
      case rel => exact ⟨y / 128, _, by go_num, ⟨HS.out, HR.out, HB2.out⟩, by omega⟩
      case measure => simp [intOf]; omega
end Fi
end Go.Proofs.YtjmhkcfdmcjilaaGreat
set_option linter.unusedVariables false
set_option linter.unusedSimpArgs false
namespace Go.Proofs.YtjmhkcfdmcjilaaGreat
namespace Fi
open Go.RowKit Ai

theorem putI_ok (w : World) (base n : Nat) (v : Value) (xs : List Nat) (x : Int) (hown : w.ownsRow base 5 1 v n (bytesV xs)) (hn : n ≤ 50000) (h0 : 0 ≤ x) (hx : x < 18446744073709551616) :
    Calls Tryz.prog 45 #[v, .int .u64 x] w fun e w' => ∃ v', e = .returned v' ∧ w'.ownsRow w.heap.size 5 1 v' (n + (enc x.toNat).length) (bytesV (xs ++ enc x.toNat)) ∧ Below w.heap.size w w' := by
  obtain ⟨y, rfl⟩ := Int.eq_ofNat_of_zero_le h0
  exact put_ok w base n v xs y hown hn (by omega)

def zig (z : Int) : Nat := if z < 0 then (-2 * z - 1).toNat else (2 * z).toNat

theorem xor64_0 {a : Int} (h0 : 0 ≤ a) (ha : a < 18446744073709551616) : bits .xor .u64 a 0 = a := by
  obtain ⟨a, rfl⟩ := Int.eq_ofNat_of_zero_le h0
  show IntKind.u64.wrap ((BitVec.ofInt 64 (a : Int) ^^^ BitVec.ofInt 64 0).toNat : Nat) = _
  have h1 : (BitVec.ofInt 64 (a : Int)).toNat = a := by rw [BitVec.toNat_ofInt]; omega
  have h2 : (BitVec.ofInt 64 0).toNat = 0 := by decide
  rw [BitVec.toNat_xor, h1, h2, Nat.xor_zero, IntKind.wrap_u64]
  omega

theorem xor64_1 {a : Int} (h0 : 0 ≤ a) (ha : a < 18446744073709551616) : bits .xor .u64 a 18446744073709551615 = 18446744073709551615 - a := by
  obtain ⟨a, rfl⟩ := Int.eq_ofNat_of_zero_le h0
  show IntKind.u64.wrap ((BitVec.ofInt 64 (a : Int) ^^^ BitVec.ofInt 64 18446744073709551615).toNat : Nat) = _
  have e : BitVec.ofInt 64 18446744073709551615 = BitVec.allOnes 64 := by decide
  have h1 : (BitVec.ofInt 64 (a : Int)).toNat = a := by rw [BitVec.toNat_ofInt]; omega
  rw [e, BitVec.xor_allOnes, BitVec.toNat_not, h1, IntKind.wrap_u64]
  omega


theorem zig_bits (z : Int) (h0 : -1099511627776 ≤ z) (hx : z < 1099511627776) :
    bits .xor .u64 (IntKind.u64.wrap (IntKind.u64.wrap z * 2)) (IntKind.u64.wrap (z / 9223372036854775808)) = (zig z : Int) := by
  unfold zig
  by_cases hz : z < 0
  · have h1 : IntKind.u64.wrap z = z + 18446744073709551616 := by rw [IntKind.wrap_u64]; omega
    have h2 : IntKind.u64.wrap ((z + 18446744073709551616) * 2) = 2 * z + 18446744073709551616 := by rw [IntKind.wrap_u64]; omega
    have h4 : IntKind.u64.wrap (z / 9223372036854775808) = 18446744073709551615 := by rw [IntKind.wrap_u64]; omega
    rw [h1, h2, h4, xor64_1 (by omega) (by omega), if_pos hz]
    omega
  · have h1 : IntKind.u64.wrap z = z := by rw [IntKind.wrap_u64]; omega
    have h2 : IntKind.u64.wrap (z * 2) = 2 * z := by rw [IntKind.wrap_u64]; omega
    have h4 : IntKind.u64.wrap (z / 9223372036854775808) = 0 := by rw [IntKind.wrap_u64]; omega
    rw [h1, h2, h4, xor64_0 (by omega) (by omega), if_neg hz]
    omega

theorem zig_lt (z : Int) (h0 : -1099511627776 ≤ z) (hx : z < 1099511627776) : zig z < 18446744073709551616 := by
  unfold zig; split <;> omega

set_option maxHeartbeats 1000000 in
set_option maxRecDepth 100000 in
theorem putint_ok (w : World) (base n : Nat) (v : Value) (xs : List Nat) (z : Int) (hown : w.ownsRow base 5 1 v n (bytesV xs)) (hn : n ≤ 50000) (h0 : -1099511627776 ≤ z) (hx : z < 1099511627776) :
    Calls Tryz.prog 46 #[v, .int .i64 z] w fun e w' => ∃ v', e = .returned v' ∧ w'.ownsRow w.heap.size 5 1 v' (n + (enc (zig z)).length) (bytesV (xs ++ enc (zig z))) ∧ Below w.heap.size w w' := by
  have HO := Aside.mk hown
  clear hown
  have hzb := zig_bits z h0 hx
  have HL := Aside.mk (zig_lt z h0 hx)
  generalize zig z = q at *
  go_enter Tryz.func46, Tryz.ntmps46
  go_wp2_with (go_at_call 45; go_loud (refine (put_ok _ base n v xs q HO.out hn HL.out).mono ?_; rintro e w1 ⟨v1, rfl, hown1, hbel1⟩; have HO1 := Aside.mk hown1; have HB1 := Aside.mk hbel1; clear hown1 hbel1))
  go_ret
  exact ⟨_, rfl, HO1.out, HB1.out⟩

/-- A change: sectors from l on, n of them, go to p. -/
structure Op3 where
  l : Int
  n : Int
  p : Int

def inI (n : Int) : Prop := -9223372036854775808 ≤ n ∧ n ≤ 9223372036854775807

/-- A slice of three ints a piece, to be read. -/
def Acts3 (w : World) (A : Option Addr) (xs : List Op3) : Prop :=
  (∀ x ∈ xs, inI x.l ∧ inI x.n ∧ inI x.p) ∧
  (0 < xs.length → ∃ b off, A = some ⟨b, off, none⟩ ∧ b < w.heap.size ∧ ∀ (i : Nat) (x : Op3), xs[i]? = some x →
    w.cell? ⟨b, off + i * 3, none⟩ = some (.int .i64 x.l) ∧ w.cell? ⟨b, off + i * 3 + 1, none⟩ = some (.int .i64 x.n) ∧ w.cell? ⟨b, off + i * 3 + 2, none⟩ = some (.int .i64 x.p))

theorem Acts3.below {w w' : World} {A : Option Addr} {xs : List Op3} (h : Acts3 w A xs) {B : Nat} (hb : Below B w w') (hB : w.heap.size ≤ B) : Acts3 w' A xs :=
  ⟨h.1, fun h0 => by
    obtain ⟨b, off, h1, h2, h3⟩ := h.2 h0
    refine ⟨b, off, h1, Nat.lt_of_lt_of_le h2 hb.size, fun i x hx => ?_⟩
    obtain ⟨k1, k2, k3⟩ := h3 i x hx
    exact ⟨by rw [hb.cell (show b < B by omega)]; exact k1, by rw [hb.cell (show b < B by omega)]; exact k2, by rw [hb.cell (show b < B by omega)]; exact k3⟩⟩

/-- May it be told? -/
def rightOp (x : Op3) : Bool := decide (0 ≤ x.l ∧ x.l ≤ 512 ∧ 0 ≤ x.n ∧ x.n ≤ 512 ∧ -1 ≤ x.p ∧ x.p ≤ 1048576)

theorem ret_bool {p q : Bool} (h : p = q) : Ending.returned (.bool p) = Ending.returned (.bool q) := by rw [h]

set_option maxHeartbeats 1000000 in
set_option maxRecDepth 100000 in
theorem right_ok (w : World) (x : Op3) : Calls Tryz.prog 47 #[.agg #[.int .i64 x.l, .int .i64 x.n, .int .i64 x.p]] w fun e w' => e = .returned (.bool (rightOp x)) ∧ Below w.heap.size w w' := by
  obtain ⟨l, n, p⟩ := x
  obtain ⟨r, hr⟩ : ∃ r, r = rightOp ⟨l, n, p⟩ := ⟨_, rfl⟩
  rw [← hr]
  have HR := Aside.mk hr
  clear hr
  have HB := Aside.mk ((Below.refl w.heap.size w).alloc (Nat.le_refl _) (.cells #[.int .i64 l, .int .i64 n, .int .i64 p] 42))
  go_enter Tryz.func47, Tryz.ntmps47
  go_wp2_with fail
  all_goals
    go_ret
    refine ⟨ret_bool ?_, HB.out⟩
    rw [HR.out, rightOp]
    first
      | (symm; apply decide_eq_false; simp only; omega)
      | (apply decide_eq_decide.2; simp only; omega)
end Fi
end Go.Proofs.YtjmhkcfdmcjilaaGreat
/- Walk: delta.Record. -/
set_option linter.unusedVariables false
set_option linter.unusedSimpArgs false
namespace Go.Proofs.YtjmhkcfdmcjilaaGreat
namespace Fi
open Go.RowKit Ai

/-- What a record tells of changes behind a sector and a page. -/
def recB : (lba phys : Int) → List Op3 → List Nat
  | _, _, [] => []
  | lba, phys, x :: r => enc (zig (x.l - lba)) ++ (enc x.n.toNat ++
      (if x.p < 0 then enc 0 ++ recB (x.l + x.n) phys r
       else enc (zig (if 0 ≤ x.p - phys then x.p - phys + 1 else x.p - phys)) ++ recB (x.l + x.n) (x.p + x.n) r))

theorem own_base {w : World} {base base' : Nat} {e : TypeId} {size n : Nat} {v : Value} {xs : List Value} (h : w.ownsRow base' e size v n xs) (hb : base ≤ base') : w.ownsRow base e size v n xs := by
  rcases h with ⟨h1, h2 | ⟨g, cap, cur, h3, h4, h5⟩⟩
  · exact ⟨h1, .inl h2⟩
  · exact ⟨h1, .inr ⟨g, cap, cur, h3, Nat.le_trans hb h4, h5⟩⟩

/-- A local struct of three ints. -/
def OC (w : World) (g : Nat) (l n p : Int) : Prop := g < w.heap.size ∧ w.cell? ⟨g, 0, none⟩ = some (.int .i64 l) ∧ w.cell? ⟨g, 1, none⟩ = some (.int .i64 n) ∧ w.cell? ⟨g, 2, none⟩ = some (.int .i64 p)

theorem OC.below {w w' : World} {g : Nat} {l n p : Int} (h : OC w g l n p) (hb : Below w.heap.size w w') : OC w' g l n p := by
  obtain ⟨h0, h1, h2, h3⟩ := h
  exact ⟨Nat.lt_of_lt_of_le h0 hb.size, by rw [hb.cell h0]; exact h1, by rw [hb.cell h0]; exact h2, by rw [hb.cell h0]; exact h3⟩

theorem OC.new (w : World) (l n p : Int) (e : TypeId) (fr : Nat × Nat) : OC (w.alloc (.cells #[.int .i64 l, .int .i64 n, .int .i64 p] e fr)) w.heap.size l n p := by
  have h := heap_alloc_new w (.cells #[.int .i64 l, .int .i64 n, .int .i64 p] e fr)
  exact ⟨by simp, by rw [cell_of_row _ _ _ _ _ _ h]; rfl, by rw [cell_of_row _ _ _ _ _ _ h]; rfl, by rw [cell_of_row _ _ _ _ _ _ h]; rfl⟩

theorem enc10 (x : Nat) (h : x < 18446744073709551616) : (enc x).length ≤ 10 := enc_length_le 9 x (by omega)

def recOk (xs : List Op3) : Bool := xs.all rightOp

theorem own_below {w w' : World} {base : Nat} {e : TypeId} {size n : Nat} {v : Value} {xs : List Value} (h : w.ownsRow base e size v n xs) (hb : Below w.heap.size w w') : w'.ownsRow base e size v n xs := by
  rcases h with ⟨h1, h2 | ⟨g, cap, cur, h3, h4, h5, h6⟩⟩
  · exact ⟨h1, .inl h2⟩
  · refine ⟨h1, .inr ⟨g, cap, cur, h3, h4, ?_, h6⟩⟩
    rw [hb.block g (by have := (Array.getElem?_eq_some_iff.1 h5).1; exact this)]
    exact h5

theorem rec_neg {lba phys : Int} {x : Op3} {r : List Op3} (hp : x.p < 0) : recB lba phys (x :: r) = (enc (zig (x.l - lba)) ++ enc x.n.toNat ++ enc (0 : Int).toNat) ++ recB (x.l + x.n) phys r := by
  rw [recB, if_pos hp]; simp
theorem rec_ge {lba phys : Int} {x : Op3} {r : List Op3} (hp : ¬ x.p < 0) (hd : 0 ≤ x.p - phys) : recB lba phys (x :: r) = (enc (zig (x.l - lba)) ++ enc x.n.toNat ++ enc (zig (x.p - phys + 1))) ++ recB (x.l + x.n) (x.p + x.n) r := by
  rw [recB, if_neg hp, if_pos hd]; simp
theorem rec_lt {lba phys : Int} {x : Op3} {r : List Op3} (hp : ¬ x.p < 0) (hd : ¬ 0 ≤ x.p - phys) : recB lba phys (x :: r) = (enc (zig (x.l - lba)) ++ enc x.n.toNat ++ enc (zig (x.p - phys))) ++ recB (x.l + x.n) (x.p + x.n) r := by
  rw [recB, if_neg hp, if_neg hd]; simp

theorem drop_of {α : Type} {xs : List α} {k : Nat} {x : α} (h : xs[k]? = some x) : xs.drop k = x :: xs.drop (k + 1) := by
  obtain ⟨hlt, rfl⟩ := List.getElem?_eq_some_iff.1 h
  exact List.drop_eq_getElem_cons hlt

theorem all_take {α : Type} {f : α → Bool} {xs : List α} {k : Nat} {x : α} (h : xs[k]? = some x) (ha : (xs.take k).all f = true) (hx : f x = true) : (xs.take (k + 1)).all f = true := by
  rw [List.take_add_one, h]
  simp only [List.all_append, ha, Option.toList_some, List.all_cons, hx, List.all_nil, Bool.and_self]

theorem rec_step {w W : World} {n k : Nat} {xs : List Op3} {pre E : List Nat} {lba phys lba' phys' : Int} {x : Op3} (h : enc n ++ recB 0 0 xs = pre ++ recB lba phys (xs.drop k)) (ha : (xs.take k).all rightOp = true)
    (hx : xs[k]? = some x) (hr : rightOp x = true) (hE : recB lba phys (x :: xs.drop (k + 1)) = E ++ recB lba' phys' (xs.drop (k + 1))) {v : Value} {m : Nat} (ho : W.ownsRow w.heap.size 5 1 v m (bytesV (pre ++ E))) (hb : Below w.heap.size w W) :
    enc n ++ recB 0 0 xs = (pre ++ E) ++ recB lba' phys' (xs.drop (k + 1)) ∧ (xs.take (k + 1)).all rightOp = true ∧ W.ownsRow w.heap.size 5 1 v (pre ++ E).length (bytesV (pre ++ E)) ∧ Below w.heap.size w W := by
  have hm : (pre ++ E).length = m := by have := ho.1; simpa [bytesV] using this
  refine ⟨?_, all_take hx ha hr, by rw [hm]; exact ho, hb⟩
  rw [h, drop_of hx, hE, List.append_assoc]

theorem recOk_false {xs : List Op3} {k : Nat} {x : Op3} (hx : xs[k]? = some x) (hr : ¬ rightOp x = true) : recOk xs = false := by
  cases h : recOk xs with
  | false => rfl
  | true => exact absurd (List.all_eq_true.1 h x (List.mem_of_getElem? hx)) hr

set_option maxHeartbeats 4000000 in
set_option maxRecDepth 100000 in
theorem record_ok (w : World) (A : Option Addr) (cap : Nat) (xs : List Op3) (hA : Acts3 w A xs) (hn : xs.length ≤ 512) :
    Calls Tryz.prog 14 #[.slice A xs.length cap] w fun e w' => ∃ v' er, e = .returned (.tuple #[v', .int .i64 er]) ∧ Below w.heap.size w w' ∧
      (recOk xs = true → er = 0 ∧ w'.ownsRow w.heap.size 5 1 v' (enc xs.length ++ recB 0 0 xs).length (bytesV (enc xs.length ++ recB 0 0 xs))) ∧ (recOk xs = false → er = 1) := by
  have HA := Aside.mk hA
  clear hA
  obtain ⟨n, hln⟩ : ∃ n, n = xs.length := ⟨_, rfl⟩
  rw [← hln] at hn
  rw [← hln]
  have HLN := Aside.mk hln
  clear hln
  have hmod : (n : Int) % 18446744073709551616 = (n : Int) := by omega
  have HNIL := Aside.mk (World.ownsRow_nil w 0 5 1)
  go_enter Tryz.func14, Tryz.ntmps14
  go_wp2_with (go_at_call 45; go_loud (refine (put_ok _ 0 0 (.slice none 0 0) [] n HNIL.out (by omega) (by omega)).mono ?_; rintro e w1 ⟨v1, rfl, hown1, hbel1⟩; have HO := Aside.mk hown1; have HB := Aside.mk hbel1; clear hown1 hbel1))
  go_loopw [4, 5, 6, 19] (fun v4 v5 v6 v19 wr => ∃ (k : Nat) (pre : List Nat) (lba phys : Int), k ≤ n ∧ v19 = .int .i64 k ∧ v5 = .int .i64 lba ∧ v6 = .int .i64 phys ∧ (0 ≤ lba ∧ lba ≤ 1024 ∧ 0 ≤ phys ∧ phys ≤ 1050000) ∧ pre.length ≤ 10 + 30 * k ∧
    Aside (enc n ++ recB 0 0 xs = pre ++ recB lba phys (xs.drop k) ∧ (xs.take k).all rightOp = true ∧ wr.ownsRow w.heap.size 5 1 v4 pre.length (bytesV pre) ∧ Below w.heap.size w wr)) (fun _ _ _ v19 _ => n - (intOf v19).toNat)
  case atStart =>
    exact ⟨0, enc n, 0, 0, by omega, rfl, rfl, rfl, by omega, by have := enc10 n (by omega); omega, ⟨by simp, by simp, by simpa using HO.out, HB.out⟩⟩
  case round =>
    obtain ⟨k, pre, lba, phys, hk, rfl, rfl, rfl, hbd, hpl, HR⟩ := hrel
    by_cases hlt : k < n
    · obtain ⟨x, hx⟩ : ∃ x, xs[k]? = some x := ⟨_, List.getElem?_eq_getElem (by rw [← HLN.out]; exact hlt)⟩
      have HX := Aside.mk hx
      obtain ⟨b, off, rfl, hb, hcells⟩ := HA.out.2 (by rw [← HLN.out]; omega)
      have HBW := Aside.mk hb
      obtain ⟨hc0, hc1, hc2⟩ := hcells k x hx
      have hlb : b < w.heap.size := hb
      have hw0 : wr.cell? ⟨b, off + k * 3, none⟩ = some (.int .i64 x.l) := by rw [HR.out.2.2.2.cell hlb]; exact hc0
      have hw1 : wr.cell? ⟨b, off + k * 3 + 1, none⟩ = some (.int .i64 x.n) := by rw [HR.out.2.2.2.cell hlb]; exact hc1
      have hw2 : wr.cell? ⟨b, off + k * 3 + 2, none⟩ = some (.int .i64 x.p) := by rw [HR.out.2.2.2.cell hlb]; exact hc2
      clear hc0 hc1 hc2 hcells hx hb HO HB hlb
      by_cases hr : rightOp x = true
      · have hrr := hr
        simp only [rightOp, decide_eq_true_eq] at hrr
        have he1 := enc10 (zig (x.l - lba)) (zig_lt _ (by omega) (by omega))
        have he2 := enc10 x.n.toNat (by omega)
        have hm2 : x.n % 18446744073709551616 = x.n := by omega
        go_wp2_with (first | (go_at_call 47; go_loud (refine (right_ok _ x).mono ?_; rintro e w1 ⟨rfl, hb1⟩; have HC := Aside.mk ((OC.new wr x.l x.n x.p 42 (0, 0)).below hb1); have HB := Aside.mk ((HR.out.2.2.2.alloc HR.out.2.2.2.size _).trans (hb1.mono (by have := HR.out.2.2.2.size; simp; omega))); have HO := Aside.mk (own_below (HR.out.2.2.1.alloc (.cells #[.int .i64 x.l, .int .i64 x.n, .int .i64 x.p] 42)) hb1); obtain ⟨-, hq0, hq1, hq2⟩ := HC.out)) | (go_at_call 46; go_loud (refine (putint_ok _ _ _ _ _ _ HO.out (by omega) (by omega) (by omega)).mono ?_; rintro e w1 ⟨v1, rfl, hown, hb1⟩; have HC1 := Aside.mk (HC.out.below hb1); have HO1 := Aside.mk (own_base hown HB.out.size); have HB1 := Aside.mk (HB.out.trans (hb1.mono HB.out.size)); clear HC HO HB hq0 hq1 hq2 hown hb1; have HC := HC1; have HO := HO1; have HB := HB1; clear HC1 HO1 HB1; obtain ⟨-, hq0, hq1, hq2⟩ := HC.out)) | (go_at_call 45; go_loud (refine (putI_ok _ _ _ _ _ _ HO.out (by omega) (by omega) (by omega)).mono ?_; rintro e w1 ⟨v1, rfl, hown, hb1⟩; have HC1 := Aside.mk (HC.out.below hb1); have HO1 := Aside.mk (own_base hown HB.out.size); have HB1 := Aside.mk (HB.out.trans (hb1.mono HB.out.size)); clear HC HO HB hq0 hq1 hq2 hown hb1; have HC := HC1; have HO := HO1; have HB := HB1; clear HC1 HO1 HB1; obtain ⟨-, hq0, hq1, hq2⟩ := HC.out)))
        · have R := rec_step (W := _) HR.out.1 HR.out.2.1 HX.out hr (rec_neg (by omega)) (by simpa only [List.append_assoc] using HO.out) HB.out
          go_roundw
          case rel => exact ⟨k + 1, _, x.l + x.n, phys, by omega, by go_num, rfl, rfl, by omega, by have := he1; have := he2; simp [enc_small]; omega, ⟨R⟩⟩
          case measure => simp [intOf]; omega
        · have hd : 0 ≤ x.p - phys := by omega
          have he3 := enc10 (zig (x.p - phys + 1)) (zig_lt _ (by omega) (by omega))
          have R := rec_step (W := _) HR.out.1 HR.out.2.1 HX.out hr (rec_ge (by omega) hd) (by simpa only [List.append_assoc] using HO.out) HB.out
          go_roundw
          case rel => exact ⟨k + 1, _, x.l + x.n, x.p + x.n, by omega, by go_num, rfl, rfl, by omega, by simp; omega, ⟨R⟩⟩
          case measure => simp [intOf]; omega
        · have hd : ¬ 0 ≤ x.p - phys := by omega
          have he3 := enc10 (zig (x.p - phys)) (zig_lt _ (by omega) (by omega))
          have R := rec_step (W := _) HR.out.1 HR.out.2.1 HX.out hr (rec_lt (by omega) hd) (by simpa only [List.append_assoc] using HO.out) HB.out
          go_roundw
          case rel => exact ⟨k + 1, _, x.l + x.n, x.p + x.n, by omega, by go_num, rfl, rfl, by omega, by simp; omega, ⟨R⟩⟩
          case measure => simp [intOf]; omega
      · have HF := Aside.mk (recOk_false HX.out hr)
        go_wp2_with (first | (go_at_call 47; go_loud (refine (right_ok _ x).mono ?_; rintro e w1 ⟨rfl, hb1⟩; have HB := Aside.mk ((HR.out.2.2.2.alloc HR.out.2.2.2.size _).trans (hb1.mono (by have := HR.out.2.2.2.size; simp; omega))))))
        go_ret2
        refine ⟨_, _, rfl, HB.out, ?_⟩
        rw [HF.out]
        exact ⟨(fun h => by cases h), fun _ => rfl⟩
    · have hkn : k = n := by omega
      subst hkn
      go_wp2_with fail
      go_ret2
      refine ⟨_, _, rfl, HR.out.2.2.2, fun _ => ⟨rfl, ?_⟩, fun h => ?_⟩
      · have e : enc k ++ recB 0 0 xs = pre := by
          rw [HR.out.1, HLN.out, List.drop_length, recB, List.append_nil]
        rw [e]
        exact HR.out.2.2.1
      · have := HR.out.2.1
        rw [HLN.out, List.take_length] at this
        rw [show recOk xs = true from this] at h
        cases h
end Fi
end Go.Proofs.YtjmhkcfdmcjilaaGreat
set_option linter.unusedVariables false
set_option linter.unusedSimpArgs false
namespace Go.Proofs.YtjmhkcfdmcjilaaGreat
namespace Fi
open Go.RowKit Ai

/-- Runs in their form, on sectors below 512 and pages up to 2^20. -/
def okRuns (xs : List Op3) : Prop :=
  (∀ x ∈ xs, 0 ≤ x.l ∧ x.l < 512 ∧ 1 ≤ x.n ∧ x.n ≤ 512 - x.l ∧ 0 ≤ x.p ∧ x.p ≤ 1048576) ∧
  ∀ (i : Nat) (a x : Op3), xs[i]? = some a → xs[i + 1]? = some x → a.n ≤ x.l - a.l ∧ ¬ (x.l - a.l = a.n ∧ x.p - a.p = a.n)

theorem cells_at {w W : World} {b off : Nat} {xs : List Op3} (h : ∀ (i : Nat) (x : Op3), xs[i]? = some x →
    w.cell? ⟨b, off + i * 3, none⟩ = some (.int .i64 x.l) ∧ w.cell? ⟨b, off + i * 3 + 1, none⟩ = some (.int .i64 x.n) ∧ w.cell? ⟨b, off + i * 3 + 2, none⟩ = some (.int .i64 x.p))
    (hb : b < w.heap.size) (hB : Below w.heap.size w W) (i : Nat) (x : Op3) (hx : xs[i]? = some x) :
    W.cell? ⟨b, off + i * 3, none⟩ = some (.int .i64 x.l) ∧ W.cell? ⟨b, off + i * 3 + 1, none⟩ = some (.int .i64 x.n) ∧ W.cell? ⟨b, off + i * 3 + 2, none⟩ = some (.int .i64 x.p) := by
  obtain ⟨h1, h2, h3⟩ := h i x hx
  exact ⟨by rw [hB.cell hb]; exact h1, by rw [hB.cell hb]; exact h2, by rw [hB.cell hb]; exact h3⟩

set_option maxHeartbeats 4000000 in
set_option maxRecDepth 100000 in
theorem form_ok (w : World) (A : Option Addr) (cap : Nat) (xs : List Op3) (hA : Acts3 w A xs) (hn : xs.length ≤ 512) (hf : okRuns xs) :
    Calls Tryz.prog 44 #[.slice A xs.length cap] w fun e w' => e = .returned (.bool true) ∧ Below w.heap.size w w' := by
  have HA := Aside.mk hA
  have HF := Aside.mk hf
  clear hA hf
  obtain ⟨n, hln⟩ : ∃ n, n = xs.length := ⟨_, rfl⟩
  rw [← hln] at hn
  rw [← hln]
  have HLN := Aside.mk hln
  clear hln
  go_enter Tryz.func44, Tryz.ntmps44
  go_wp2_with fail
  go_loopw [9] (fun v9 wr => ∃ (k : Nat), k ≤ n ∧ v9 = .int .i64 k ∧ Aside (Below w.heap.size w wr)) (fun v9 _ => n - (intOf v9).toNat)
  case atStart => exact ⟨0, by omega, rfl, ⟨Below.refl _ _⟩⟩
  case round =>
    obtain ⟨k, hk, rfl, HR⟩ := hrel
    by_cases hlt : k < n
    · obtain ⟨x, hx⟩ : ∃ x, xs[k]? = some x := ⟨_, List.getElem?_eq_getElem (by rw [← HLN.out]; exact hlt)⟩
      obtain ⟨b, off, rfl, hb, hcells⟩ := HA.out.2 (by rw [← HLN.out]; omega)
      have hxf := HF.out.1 x (List.mem_of_getElem? hx)
      have HC := Aside.mk (cells_at hcells hb HR.out)
      obtain ⟨hw0, hw1, hw2⟩ := HC.out k x hx
      have HX := Aside.mk hx
      have HBW := Aside.mk hb
      have HB2 := Aside.mk (HR.out.alloc HR.out.size (.cells #[.int .i64 x.l, .int .i64 x.n, .int .i64 x.p] 94))
      clear hcells hb hx
      by_cases hk0 : k = 0
      · subst hk0
        simp only [Nat.zero_mul, Nat.add_zero] at hw0 hw1 hw2
        go_wp2_with fail
        go_roundw
        case rel => exact ⟨1, by omega, by go_num, ⟨HB2.out⟩⟩
        case measure => simp [intOf]; omega
      · obtain ⟨j, rfl⟩ : ∃ j, k = j + 1 := ⟨k - 1, by omega⟩
        obtain ⟨a, ha⟩ : ∃ a, xs[j]? = some a := ⟨_, List.getElem?_eq_getElem (by rw [← HLN.out]; omega)⟩
        have HC2 := Aside.mk (cells_at HC.out (Nat.lt_of_lt_of_le HBW.out HR.out.size) ((Below.refl _ _).alloc (Nat.le_refl _) (.cells #[.int .i64 x.l, .int .i64 x.n, .int .i64 x.p] 94)))
        obtain ⟨hv0, hv1, hv2⟩ := HC2.out j a ha
        have haf := HF.out.1 a (List.mem_of_getElem? ha)
        have hpair := HF.out.2 j a x ha HX.out
        have HB3 := Aside.mk (HB2.out.alloc HB2.out.size (.cells #[.int .i64 a.l, .int .i64 a.n, .int .i64 a.p] 94))
        clear ha
        go_wp2_with fail
        all_goals first
          | (exfalso; omega)
          | (go_roundw
             case rel => exact ⟨j + 2, by omega, by go_num, ⟨HB3.out⟩⟩
             case measure => simp [intOf]; omega)
        go_ways
    · have hkn : k = n := by omega
      subst hkn
      go_wp2_with fail
      go_ret
      exact ⟨rfl, HR.out⟩
end Fi
end Go.Proofs.YtjmhkcfdmcjilaaGreat
