/-
  Walks: vint.PutInt, delta.right, delta.Record.
-/
import Derived.Test.YtjmhkcfdmcjilaaGreatFiA
set_option linter.unusedVariables false
set_option linter.unusedSimpArgs false
namespace Go.Proofs.YtjmhkcfdmcjilaaGreat
namespace Fi
open Go.RowKit Ai

theorem putI_ok (w : World) (base n : Nat) (v : Value) (xs : List Nat) (x : Int) (hown : w.ownsRow base 5 1 v n (bytesV xs)) (hn : n ≤ 50000) (h0 : 0 ≤ x) (hx : x < 18446744073709551616) :
    Calls Tryz.prog 45 #[v, .int .u64 x] w fun e w' => ∃ v', e = .returned v' ∧ w'.ownsRow w.heap.size 5 1 v' (n + (enc x.toNat).length) (bytesV (xs ++ enc x.toNat)) ∧ Below w.heap.size w w' := by
  obtain ⟨y, rfl⟩ := Int.eq_ofNat_of_zero_le h0
  exact put_ok w base n v xs y hown hn (by omega)

def zig (z : Int) : Nat := if z < 0 then (-2 * z - 1).toNat else (2 * z).toNat

theorem xor64_0 {a : Int} (h0 : 0 ≤ a) (ha : a < 18446744073709551616) : bits .xor .u64 a 0 = a := by
  obtain ⟨a, rfl⟩ := Int.eq_ofNat_of_zero_le h0
  show IntKind.u64.wrap ((BitVec.ofInt 64 (a : Int) ^^^ BitVec.ofInt 64 0).toNat : Nat) = _
  have h1 : (BitVec.ofInt 64 (a : Int)).toNat = a := by rw [BitVec.toNat_ofInt]; omega
  have h2 : (BitVec.ofInt 64 0).toNat = 0 := by decide
  rw [BitVec.toNat_xor, h1, h2, Nat.xor_zero, IntKind.wrap_u64]
  omega

theorem xor64_1 {a : Int} (h0 : 0 ≤ a) (ha : a < 18446744073709551616) : bits .xor .u64 a 18446744073709551615 = 18446744073709551615 - a := by
  obtain ⟨a, rfl⟩ := Int.eq_ofNat_of_zero_le h0
  show IntKind.u64.wrap ((BitVec.ofInt 64 (a : Int) ^^^ BitVec.ofInt 64 18446744073709551615).toNat : Nat) = _
  have e : BitVec.ofInt 64 18446744073709551615 = BitVec.allOnes 64 := by decide
  have h1 : (BitVec.ofInt 64 (a : Int)).toNat = a := by rw [BitVec.toNat_ofInt]; omega
  rw [e, BitVec.xor_allOnes, BitVec.toNat_not, h1, IntKind.wrap_u64]
  omega


theorem zig_bits (z : Int) (h0 : -1099511627776 ≤ z) (hx : z < 1099511627776) :
    bits .xor .u64 (IntKind.u64.wrap (IntKind.u64.wrap z * 2)) (IntKind.u64.wrap (z / 9223372036854775808)) = (zig z : Int) := by
  unfold zig
  by_cases hz : z < 0
  · have h1 : IntKind.u64.wrap z = z + 18446744073709551616 := by rw [IntKind.wrap_u64]; omega
    have h2 : IntKind.u64.wrap ((z + 18446744073709551616) * 2) = 2 * z + 18446744073709551616 := by rw [IntKind.wrap_u64]; omega
    have h4 : IntKind.u64.wrap (z / 9223372036854775808) = 18446744073709551615 := by rw [IntKind.wrap_u64]; omega
    rw [h1, h2, h4, xor64_1 (by omega) (by omega), if_pos hz]
    omega
  · have h1 : IntKind.u64.wrap z = z := by rw [IntKind.wrap_u64]; omega
    have h2 : IntKind.u64.wrap (z * 2) = 2 * z := by rw [IntKind.wrap_u64]; omega
    have h4 : IntKind.u64.wrap (z / 9223372036854775808) = 0 := by rw [IntKind.wrap_u64]; omega
    rw [h1, h2, h4, xor64_0 (by omega) (by omega), if_neg hz]
    omega

theorem zig_lt (z : Int) (h0 : -1099511627776 ≤ z) (hx : z < 1099511627776) : zig z < 18446744073709551616 := by
  unfold zig; split <;> omega

set_option maxHeartbeats 1000000 in
set_option maxRecDepth 100000 in
theorem putint_ok (w : World) (base n : Nat) (v : Value) (xs : List Nat) (z : Int) (hown : w.ownsRow base 5 1 v n (bytesV xs)) (hn : n ≤ 50000) (h0 : -1099511627776 ≤ z) (hx : z < 1099511627776) :
    Calls Tryz.prog 46 #[v, .int .i64 z] w fun e w' => ∃ v', e = .returned v' ∧ w'.ownsRow w.heap.size 5 1 v' (n + (enc (zig z)).length) (bytesV (xs ++ enc (zig z))) ∧ Below w.heap.size w w' := by
  have HO := Aside.mk hown
  clear hown
  have hzb := zig_bits z h0 hx
  have HL := Aside.mk (zig_lt z h0 hx)
  generalize zig z = q at *
  go_enter Tryz.func46, Tryz.ntmps46
  go_wp2_with (go_at_call 45; go_loud (refine (put_ok _ base n v xs q HO.out hn HL.out).mono ?_; rintro e w1 ⟨v1, rfl, hown1, hbel1⟩; have HO1 := Aside.mk hown1; have HB1 := Aside.mk hbel1; clear hown1 hbel1))
  go_ret
  exact ⟨_, rfl, HO1.out, HB1.out⟩

/-- A change: sectors from l on, n of them, go to p. -/
structure Op3 where
  l : Int
  n : Int
  p : Int

def inI (n : Int) : Prop := -9223372036854775808 ≤ n ∧ n ≤ 9223372036854775807

/-- A slice of three ints a piece, to be read. -/
def Acts3 (w : World) (A : Option Addr) (xs : List Op3) : Prop :=
  (∀ x ∈ xs, inI x.l ∧ inI x.n ∧ inI x.p) ∧
  (0 < xs.length → ∃ b off, A = some ⟨b, off, none⟩ ∧ b < w.heap.size ∧ ∀ (i : Nat) (x : Op3), xs[i]? = some x →
    w.cell? ⟨b, off + i * 3, none⟩ = some (.int .i64 x.l) ∧ w.cell? ⟨b, off + i * 3 + 1, none⟩ = some (.int .i64 x.n) ∧ w.cell? ⟨b, off + i * 3 + 2, none⟩ = some (.int .i64 x.p))

theorem Acts3.below {w w' : World} {A : Option Addr} {xs : List Op3} (h : Acts3 w A xs) {B : Nat} (hb : Below B w w') (hB : w.heap.size ≤ B) : Acts3 w' A xs :=
  ⟨h.1, fun h0 => by
    obtain ⟨b, off, h1, h2, h3⟩ := h.2 h0
    refine ⟨b, off, h1, Nat.lt_of_lt_of_le h2 hb.size, fun i x hx => ?_⟩
    obtain ⟨k1, k2, k3⟩ := h3 i x hx
    exact ⟨by rw [hb.cell (show b < B by omega)]; exact k1, by rw [hb.cell (show b < B by omega)]; exact k2, by rw [hb.cell (show b < B by omega)]; exact k3⟩⟩

/-- May it be told? -/
def rightOp (x : Op3) : Bool := decide (0 ≤ x.l ∧ x.l ≤ 512 ∧ 0 ≤ x.n ∧ x.n ≤ 512 ∧ -1 ≤ x.p ∧ x.p ≤ 1048576)

theorem ret_bool {p q : Bool} (h : p = q) : Ending.returned (.bool p) = Ending.returned (.bool q) := by rw [h]

set_option maxHeartbeats 1000000 in
set_option maxRecDepth 100000 in
theorem right_ok (w : World) (x : Op3) : Calls Tryz.prog 47 #[.agg #[.int .i64 x.l, .int .i64 x.n, .int .i64 x.p]] w fun e w' => e = .returned (.bool (rightOp x)) ∧ Below w.heap.size w w' := by
  obtain ⟨l, n, p⟩ := x
  obtain ⟨r, hr⟩ : ∃ r, r = rightOp ⟨l, n, p⟩ := ⟨_, rfl⟩
  rw [← hr]
  have HR := Aside.mk hr
  clear hr
  have HB := Aside.mk ((Below.refl w.heap.size w).alloc (Nat.le_refl _) (.cells #[.int .i64 l, .int .i64 n, .int .i64 p] 42))
  go_enter Tryz.func47, Tryz.ntmps47
  go_wp2_with fail
  all_goals
    go_ret
    refine ⟨ret_bool ?_, HB.out⟩
    rw [HR.out, rightOp]
    first
      | (symm; apply decide_eq_false; simp only; omega)
      | (apply decide_eq_decide.2; simp only; omega)
end Fi
end Go.Proofs.YtjmhkcfdmcjilaaGreat
