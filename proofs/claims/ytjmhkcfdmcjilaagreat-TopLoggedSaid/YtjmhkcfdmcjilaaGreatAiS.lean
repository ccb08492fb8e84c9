/-
  What stands in for functions: nand.fill over a whole row; internal/bytealg's Count and MakeNoZero; crc.More.
-/
import Derived.Test.YtjmhkcfdmcjilaaGreatAiR
import Derived.Test.YtjmhkcfdmcjilaaGreatProg
import Derived.Laws.Externs
import Derived.Handy
import Derived.Outline
import Derived.Lib.Hide
namespace Go.Proofs.YtjmhkcfdmcjilaaGreat
namespace Ai
open Go.RowKit

/-- A fact that the walk does not use. -/
structure Aside (p : Prop) : Prop where mk :: (out : p)

def fillTo (x : Int) (i : Nat) (cur : Array Value) : Array Value := (List.replicate i (Value.int .u8 x) ++ cur.toList.drop i).toArray

theorem fillTo_size (x : Int) {i : Nat} {cur : Array Value} (h : i ≤ cur.size) : (fillTo x i cur).size = cur.size := by
  simp [fillTo]; omega

theorem fillTo_next (x : Int) {i : Nat} {cur : Array Value} (h : i < cur.size) : (fillTo x i cur).setIfInBounds i (.int .u8 x) = fillTo x (i + 1) cur := by
  apply Array.ext'
  simp only [fillTo, Array.toList_setIfInBounds]
  rw [List.set_append_right _ _ (by simp)]
  simp only [List.length_replicate, Nat.sub_self]
  rw [List.drop_eq_getElem_cons (by simpa using h)]
  simp [List.replicate_succ']

theorem fillTo_at (x : Int) {i : Nat} {cur : Array Value} (h : i < cur.size) : (fillTo x i cur)[i]? = some cur[i] := by
  simp only [fillTo, List.getElem?_toArray]
  rw [List.getElem?_append_right (by simp)]
  simp [h]

set_option maxHeartbeats 1000000 in
set_option maxRecDepth 100000 in
theorem fill_ok (b cap k : Nat) (x : Int) (cur : Array Value) (el : TypeId) (w : World) (hb : w.heap[b]? = some (.cells cur el (0, 0))) (hk : k ≤ cur.size) (hk2 : k ≤ 65000) :
    Calls Tryz.prog 102 #[.slice (some ⟨b, 0, none⟩) k cap, .int .u8 x] w fun e w' => e = .returned (.tuple #[]) ∧ w' = w.setRow b (fillTo x k cur) := by
  have HB := Aside.mk hb
  have HK := Aside.mk hk
  clear hb hk
  go_enter Tryz.func102, Tryz.ntmps102
  go_wp2_with fail
  go_loopw [7] (fun v7 wr => ∃ i : Nat, i ≤ k ∧ v7 = .int .i64 i ∧ Aside (wr = w.setRow b (fillTo x i cur))) (fun v _ => k - (intOf v).toNat)
  case atStart =>
    refine ⟨0, by omega, rfl, ⟨?_⟩⟩
    have : fillTo x 0 cur = cur := by apply Array.ext'; simp [fillTo]
    rw [this, setRow_self w b cur el (0, 0) HB.out]
  case round =>
    obtain ⟨i, hi, rfl, HA⟩ := hrel
    by_cases hlt : i < k
    · have hc : wr.cell? ⟨b, i, none⟩ = some (cur[i]'(by have := HK.out; omega)) := by
        rw [HA.out, cell_setRow_same w b i cur _ el (0, 0) HB.out]
        exact fillTo_at x (by have := HK.out; omega)
      have hf : wr.frozen? ⟨b, i, none⟩ = false := by
        rw [HA.out]
        simp [World.frozen?, setRow_heap w b cur _ el (0, 0) HB.out]
      have HN := Aside.mk (show wr.setCell ⟨b, i, none⟩ (.int .u8 x) = w.setRow b (fillTo x (i + 1) cur) by
        have h1 := setRow_heap w b cur (fillTo x i cur) el (0, 0) HB.out
        rw [HA.out, setCell_eq_setRow _ b i (fillTo x i cur) el (0, 0) _ h1, setRow_setRow, fillTo_next x (by have := HK.out; omega)])
      clear HA
      go_wp2_with fail
      go_round
      case rel => exact ⟨i + 1, by omega, by go_num, ⟨HN.out⟩⟩
      case measure => simp [intOf]; omega
    · have : k = i := by omega
      subst this
      go_wp2_with fail
      go_returns
      exact ⟨rfl, HA.out⟩

def crcIter : Nat → Nat → Nat
  | 0, c => c
  | n + 1, c => crcBit (crcIter n c)

theorem crcByte_iter (c : Nat) (x : UInt8) : crcByte c x = crcIter 8 (Nat.xor c x.toNat) := rfl

theorem xor_lt {a b : Nat} (ha : a < 4294967296) (hb : b < 4294967296) : Nat.xor a b < 4294967296 := Nat.xor_lt_two_pow (n := 32) ha hb

theorem bits_xor {a b : Nat} (ha : a < 4294967296) (hb : b < 4294967296) : bits .xor .u32 (a : Int) (b : Int) = ((Nat.xor a b : Nat) : Int) := by
  show IntKind.u32.wrap ((BitVec.ofInt 32 (a : Int) ^^^ BitVec.ofInt 32 (b : Int)).toNat : Nat) = _
  have h1 : (BitVec.ofInt 32 (a : Int)).toNat = a := by rw [BitVec.toNat_ofInt]; omega
  have h2 : (BitVec.ofInt 32 (b : Int)).toNat = b := by rw [BitVec.toNat_ofInt]; omega
  rw [BitVec.toNat_xor, h1, h2, IntKind.wrap_u32]
  have h3 : a ^^^ b < 4294967296 := xor_lt ha hb
  show ((a ^^^ b : Nat) : Int) % _ = ((a ^^^ b : Nat) : Int)
  omega

theorem bits_not {a : Nat} (ha : a < 4294967296) : bits .xor .u32 IntKind.u32.max (a : Int) = ((Nat.xor a 4294967295 : Nat) : Int) := by
  have h := bits_xor (a := 4294967295) (b := a) (by omega) ha
  have e : IntKind.u32.max = ((4294967295 : Nat) : Int) := rfl
  rw [e, h]
  exact congrArg _ (Nat.xor_comm _ _)

theorem bits_and1 {a : Nat} (ha : a < 4294967296) : bits .and .u32 (a : Int) 1 = ((a % 2 : Nat) : Int) := by
  show IntKind.u32.wrap ((BitVec.ofInt 32 (a : Int) &&& BitVec.ofInt 32 1).toNat : Nat) = _
  have h1 : (BitVec.ofInt 32 (a : Int)).toNat = a := by rw [BitVec.toNat_ofInt]; omega
  have h2 : (BitVec.ofInt 32 1).toNat = 2 ^ 1 - 1 := by decide
  rw [BitVec.toNat_and, h1, h2, Nat.and_two_pow_sub_one_eq_mod, IntKind.wrap_u32]
  omega

theorem crcBit_eq (c : Nat) : crcBit c = if c % 2 = 1 then Nat.xor (c / 2) 3988292384 else c / 2 := by
  have h1 : Nat.land c 1 = c % 2 := Nat.and_two_pow_sub_one_eq_mod c 1
  have h2 : Nat.shiftRight c 1 = c / 2 := Nat.shiftRight_eq_div_pow c 1
  unfold crcBit
  rw [h1, h2]
  by_cases h : c % 2 = 1
  · rw [if_pos h, h]; rfl
  · have h0 : c % 2 = 0 := by omega
    rw [if_neg h, h0]; rfl

theorem crcOf_append (l : List UInt8) : ∀ (c : Nat) (x : UInt8), crcOf c (l ++ [x]) = crcByte (crcOf c l) x := by
  induction l with
  | nil => intro c x; rfl
  | cons y l ih => intro c x; exact ih _ x

set_option maxHeartbeats 1000000 in
set_option maxRecDepth 100000 in
theorem crc_ok (b off cap s n : Nat) (bs : List UInt8) (w : World) (hs : s < 4294967296) (hl : n ≤ 65000) (hn : bs.length = n) (hc : ∀ (i : Nat) (x : UInt8), bs[i]? = some x → w.cell? ⟨b, off + i, none⟩ = some (.int .u8 (x.toNat : Int))) :
    Calls Tryz.prog 92 #[.int .u32 s, .slice (some ⟨b, off, none⟩) n cap] w fun e w' => e = .returned (.int .u32 ((Nat.xor (crcOf (Nat.xor s 4294967295) bs) 4294967295 : Nat) : Int)) ∧ w' = w := by
  have HC := Aside.mk hc
  have HNL := Aside.mk hn
  clear hc hn
  go_enter Tryz.func92, Tryz.ntmps92
  go_wp2_with fail
  go_loop [5, 13] (fun v5 v13 => ∃ i : Nat, i ≤ n ∧ v13 = .int .i64 i ∧ ∃ c : Nat, v5 = .int .u32 c ∧ Aside (c < 4294967296 ∧ c = crcOf (Nat.xor s 4294967295) (bs.take i))) (fun _ v => n - (intOf v).toNat)
  case atStart =>
    exact ⟨0, by omega, rfl, Nat.xor s 4294967295, by rw [bits_not hs], ⟨xor_lt hs (by omega), rfl⟩⟩
  case round =>
    obtain ⟨i, hi, rfl, c, rfl, HA⟩ := hrel
    have hc32 := HA.out.1
    have HA2 := Aside.mk HA.out.2
    clear HA
    by_cases hlt : i < n
    · obtain ⟨x, hx, hxb⟩ : ∃ x : UInt8, w.cell? ⟨b, off + i, none⟩ = some (.int .u8 (x.toNat : Int)) ∧ bs[i]? = some x :=
        ⟨_, HC.out i _ (List.getElem?_eq_getElem (by rw [HNL.out]; exact hlt)), List.getElem?_eq_getElem (by rw [HNL.out]; exact hlt)⟩
      have HXB := Aside.mk hxb
      have HXL := Aside.mk (show x.toNat < 256 from x.toNat_lt)
      clear hxb
      generalize hxn : x.toNat = xn at *
      have HXN := Aside.mk hxn
      clear hxn
      go_wp2_with fail
      go_loop [5, 21] (fun v5 v21 => ∃ j : Nat, j ≤ 8 ∧ v21 = .int .i64 j ∧ ∃ cc : Nat, v5 = .int .u32 cc ∧ Aside (cc < 4294967296 ∧ cc = crcIter j (Nat.xor c xn))) (fun _ v => 8 - (intOf v).toNat)
      case atStart =>
        have hxl : xn < 4294967296 := by have := HXL.out; omega
        refine ⟨0, by omega, rfl, Nat.xor c xn, ?_, ⟨xor_lt hc32 hxl, rfl⟩⟩
        have e : (xn : Int) % 4294967296 = (xn : Int) := by omega
        rw [e, bits_xor hc32 hxl]
      case round =>
        obtain ⟨j, hj, rfl, cc, rfl, HB⟩ := hrel
        have hcc := HB.out.1
        have HB2 := Aside.mk HB.out.2
        clear HB
        by_cases hlj : j < 8
        · have hand := bits_and1 hcc
          have hshr : IntKind.u32.wrap (((cc / 2 : Nat) : Int)) = ((cc / 2 : Nat) : Int) := by rw [IntKind.wrap_u32]; omega
          have HS := Aside.mk (show crcIter (j + 1) (Nat.xor c xn) = crcBit cc by rw [HB2.out]; rfl)
          clear HB2
          go_wp2_with fail
          · rename_i hb
            have hb' : cc % 2 = 1 := by simp at hb; omega
            have e : (cc : Int) / 2 = ((cc / 2 : Nat) : Int) := by omega
            refine ⟨⟨j + 1, by omega, by go_num, Nat.xor (cc / 2) 3988292384, ?_, ⟨xor_lt (by omega) (by omega), by rw [HS.out, crcBit_eq, if_pos hb']⟩⟩, by simp [intOf]; omega⟩
            rw [e]
            exact congrArg (Value.int .u32) (bits_xor (b := 3988292384) (by omega) (by omega))
          · rename_i hb
            have hb' : ¬ cc % 2 = 1 := by simp at hb; omega
            have e : (cc : Int) / 2 = ((cc / 2 : Nat) : Int) := by omega
            exact ⟨⟨j + 1, by omega, by go_num, cc / 2, by rw [e], ⟨by omega, by rw [HS.out, crcBit_eq, if_neg hb']⟩⟩, by simp [intOf]; omega⟩
        · have : j = 8 := by omega
          subst this
          go_wp2_with fail
          go_round
          case rel =>
            refine ⟨i + 1, by omega, by go_num, cc, rfl, ⟨hcc, ?_⟩⟩
            rw [HB2.out, ← HXN.out, ← crcByte_iter, List.take_add_one, HXB.out, HA2.out]
            exact (crcOf_append _ _ _).symm
          case measure => simp [intOf]; omega
    · have : n = i := by omega
      subst this
      go_wp2_with fail
      go_ret
      refine ⟨?_, rfl⟩
      rw [bits_not hc32, HA2.out, List.take_of_length_le (by rw [HNL.out]; exact Nat.le_refl _)]
      rfl
end Ai
end Go.Proofs.YtjmhkcfdmcjilaaGreat
