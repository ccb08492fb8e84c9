/-
  Walks of the codec: tag.Clean of what is not clean; strings of bytes.
-/
import Derived.Test.YtjmhkcfdmcjilaaGreatLoE
/- Walk of the codec: tag.Encode. -/
/- Walks of the codec: get. -/
/- Walks of the codec: kind, crc. -/
set_option linter.unusedVariables false
set_option linter.unusedSimpArgs false
namespace Go.Proofs.YtjmhkcfdmcjilaaGreat
namespace Lo
open Go.RowKit Ai Fi

theorem kind3_ok (w : World) : Calls Tryz.prog 48 #[.int .i64 3] w fun e w' => e = .returned (.bool true) ∧ w' = w := by
  go_enter Tryz.func48, Tryz.ntmps48
  go_wp2_with fail
  go_ret
  exact ⟨rfl, rfl⟩

/-- A row of bytes, to be read. -/
def Bts (w : World) (g off : Nat) (bs : List Int) : Prop := g < w.heap.size ∧ ∀ (i : Nat) (x : Int), bs[i]? = some x → w.cell? ⟨g, off + i, none⟩ = some (.int .u8 x) ∧ 0 ≤ x ∧ x ≤ 255

def crcBit (a : Int) : Int := if (bits BinOp.and IntKind.u32 a 1 == 1) = true then bits BinOp.xor IntKind.u32 (a / 2) 3988292384 else a / 2
def crcBits : Nat → Int → Int
  | 0, a => a
  | j + 1, a => crcBit (crcBits j a)
def crcTo (bs : List Int) (c : Int) : Nat → Int
  | 0 => c
  | k + 1 => crcBits 8 (bits BinOp.xor IntKind.u32 (crcTo bs c k) (bs.getD k 0))
def crcF (c : Int) (bs : List Int) : Int := bits BinOp.xor IntKind.u32 IntKind.u32.max (crcTo bs (bits BinOp.xor IntKind.u32 IntKind.u32.max c) bs.length)

set_option maxHeartbeats 4000000 in
set_option maxRecDepth 100000 in
theorem more_ok (w : World) (c : Int) (g off cap : Nat) (bs : List Int) (hB : Bts w g off bs) (hn : bs.length ≤ 4096) : Calls Tryz.prog 92 #[.int .u32 c, .slice (some ⟨g, off, none⟩) bs.length cap] w fun e w' => e = .returned (.int .u32 (crcF c bs)) ∧ w' = w := by
  have HB := Ai.Aside.mk hB
  obtain ⟨c0, hc0⟩ : ∃ c0, c0 = bits BinOp.xor IntKind.u32 IntKind.u32.max c := ⟨_, rfl⟩
  have HF := Ai.Aside.mk (show crcF c bs = bits BinOp.xor IntKind.u32 IntKind.u32.max (crcTo bs c0 bs.length) by rw [hc0]; rfl)
  obtain ⟨rr, hrr⟩ : ∃ rr, rr = crcF c bs := ⟨_, rfl⟩
  rw [← hrr] at HF ⊢
  have HC0 := Ai.Aside.mk hc0
  obtain ⟨n, hn2⟩ : ∃ n, n = bs.length := ⟨_, rfl⟩
  rw [← hn2] at hn HF ⊢
  have HN := Ai.Aside.mk hn2
  clear hB hn2 hrr hc0
  go_enter Tryz.func92, Tryz.ntmps92
  go_wp2_with fail
  go_loopw [13, 5] (fun v13 v5 wr => ∃ (k : Nat) (a : Int), k ≤ n ∧ v13 = .int .i64 k ∧ v5 = .int .u32 a ∧ wr = w ∧ Ai.Aside (a = crcTo bs c0 k)) (fun v13 _ _ => n - (intOf v13).toNat)
  case atStart => exact ⟨0, _, by omega, rfl, rfl, rfl, ⟨HC0.out.symm⟩⟩
  case round =>
    obtain ⟨k, a, hk, rfl, rfl, rfl, HA⟩ := hrel
    by_cases hlt : k < n
    · obtain ⟨x, hx⟩ : ∃ x, bs[k]? = some x := ⟨_, List.getElem?_eq_getElem (by rw [← HN.out]; exact hlt)⟩
      obtain ⟨hc, hx0, hx1⟩ := HB.out.2 k x hx
      have HX := Ai.Aside.mk (show bs.getD k 0 = x by rw [List.getD_eq_getElem?_getD, hx]; rfl)
      clear hx
      go_wp2_with fail
      go_loopw [21, 5] (fun v21 v5 wr2 => ∃ (j : Nat) (b : Int), j ≤ 8 ∧ v21 = .int .i64 j ∧ v5 = .int .u32 b ∧ wr2 = wr ∧ Ai.Aside (b = crcBits j (bits BinOp.xor IntKind.u32 a x))) (fun v21 _ _ => 8 - (intOf v21).toNat)
      case atStart => exact ⟨0, _, by omega, rfl, rfl, rfl, ⟨rfl⟩⟩
      case round =>
        obtain ⟨j, b, hj, rfl, rfl, rfl, HJ⟩ := hrel
        by_cases hj8 : j < 8
        · have HS := Ai.Aside.mk (show crcBits (j + 1) (bits BinOp.xor IntKind.u32 a x) = crcBit b by rw [HJ.out]; rfl)
          cases hq : (bits BinOp.and IntKind.u32 b 1 == 1) with
          | true =>
            have HQ := Ai.Aside.mk (show crcBit b = bits BinOp.xor IntKind.u32 (b / 2) 3988292384 by unfold crcBit; rw [if_pos hq])
            go_wp2_with fail
            go_roundw
            case rel => exact ⟨j + 1, _, by omega, by go_num, rfl, trivial, ⟨by rw [HS.out, HQ.out]⟩⟩
            case measure => simp [intOf]; omega
          | false =>
            have HQ := Ai.Aside.mk (show crcBit b = b / 2 by unfold crcBit; rw [if_neg (by rw [hq]; simp)])
            go_wp2_with fail
            go_roundw
            case rel => exact ⟨j + 1, _, by omega, by go_num, rfl, trivial, ⟨by rw [HS.out, HQ.out]⟩⟩
            case measure => simp [intOf]; omega
        · obtain rfl : j = 8 := by omega
          go_wp2_with fail
          go_roundw
          case rel => exact ⟨k + 1, _, by omega, by go_num, rfl, trivial, ⟨by rw [HJ.out, HA.out, crcTo, HX.out]⟩⟩
          case measure => simp [intOf]; omega
    · obtain rfl : k = n := by omega
      go_wp2_with fail
      go_ret
      exact ⟨by rw [HF.out, HA.out]; rfl, rfl⟩

theorem sum_ok (w : World) (g off cap : Nat) (bs : List Int) (hB : Bts w g off bs) (hn : bs.length ≤ 4096) : Calls Tryz.prog 50 #[.slice (some ⟨g, off, none⟩) bs.length cap] w fun e w' => e = .returned (.int .u32 (crcF 0 bs)) ∧ w' = w := by
  have H := Ai.Aside.mk (more_ok w 0 g off cap bs hB hn)
  generalize bs.length = n at *
  generalize crcF 0 bs = r at *
  clear hB
  go_enter Tryz.func50, Tryz.ntmps50
  go_wp2_with (go_at_call 92; go_loud (refine H.out.mono ?_; rintro e w1 ⟨rfl, hw⟩; have hw2 := hw.symm; clear hw; subst hw2))
  go_ret
  exact ⟨rfl, rfl⟩
end Lo
end Go.Proofs.YtjmhkcfdmcjilaaGreat
/- Walks of the codec: put, get. -/
set_option linter.unusedVariables false
set_option linter.unusedSimpArgs false
namespace Go.Proofs.YtjmhkcfdmcjilaaGreat
namespace Lo
open Go.RowKit Ai Fi

/-- Numbers as cells that hold bytes. -/
def byI (l : List Int) : List Value := l.map (Value.int .u8)

/-- A number's four bytes, the lowest first. -/
def le4 (v : Int) : List Int := [v % 256, v / 256 % 256, v / 65536 % 256, v / 16777216]

/-- A list with another laid over it. -/
def over (l : List Int) (off : Nat) : List Int → List Int
  | [] => l
  | x :: r => over (l.set off x) (off + 1) r

theorem byI_set (l : List Int) (i : Nat) (x : Int) : (byI l).set i (.int .u8 x) = byI (l.set i x) := by
  simp only [byI, List.map_set]

/-- A block that is a row of bytes, whole. -/
def RowB (w : World) (g : Nat) (bs : List Int) : Prop := w.heap[g]? = some (.cells (byI bs).toArray 5 (0, 0))

def Put4Post (w : World) (g : Nat) (xs : List Int) (e : Ending) (w' : World) : Prop :=
  e = .returned (.tuple #[]) ∧ Mod w w' g ∧ RowB w' g xs

theorem RowB.set {w W : World} {g : Nat} {xs : List Int} (h : RowB W g xs) (hm : Mod w W g) (i : Nat) (x : Int) :
    Mod w (W.setCell ⟨g, i, none⟩ (.int .u8 x)) g ∧ RowB (W.setCell ⟨g, i, none⟩ (.int .u8 x)) g (xs.set i x) := by
  refine ⟨hm.trans (mod_set _ _ _ _), ?_⟩
  unfold RowB
  rw [heap_setCell_same W g i _ 5 _ h, ← byI_set]
  simp

theorem RowB.lt {w : World} {g : Nat} {bs : List Int} (h : RowB w g bs) : g < w.heap.size := (Array.getElem?_eq_some_iff.1 h).1

theorem RowB.cell {w : World} {g : Nat} {bs : List Int} (h : RowB w g bs) {i : Nat} {x : Int} (hx : bs[i]? = some x) : w.cell? ⟨g, i, none⟩ = some (.int .u8 x) := by
  rw [cell_of_row _ _ _ _ _ _ h]
  simp [byI, hx]

theorem RowB.at {w : World} {g : Nat} {bs : List Int} (h : RowB w g bs) {i : Nat} (hi : i < bs.length) : (∃ u, w.cell? ⟨g, i, none⟩ = some u) ∧ w.frozen? ⟨g, i, none⟩ = false :=
  ⟨⟨_, h.cell (List.getElem?_eq_getElem hi)⟩, frozen_of_row _ _ _ _ _ h⟩

theorem over_length : ∀ (l : List Int) (off : Nat) (r : List Int), (over l off r).length = l.length
  | _, _, [] => rfl
  | l, off, x :: r => by rw [over, over_length, List.length_set]

set_option maxHeartbeats 4000000 in
set_option maxRecDepth 100000 in
theorem put49_ok (w : World) (g off len cap : Nat) (xs : List Int) (v : Int) (hrow : RowB w g xs) (hoff : off + 4 ≤ xs.length) (hlen : 4 ≤ len) (hv0 : 0 ≤ v) (hv1 : v ≤ 4294967295) :
    Calls Tryz.prog 49 #[.slice (some ⟨g, off, none⟩) len cap, .int .u32 v] w (Put4Post w g (over xs off (le4 v))) := by
  have HR0 := Ai.Aside.mk (And.intro (Mod.of_below (Below.refl w.heap.size w) g) hrow)
  have HB := Ai.Aside.mk (show ∀ b : Nat, 256 ^ b > 0 from fun b => Nat.pow_pos (by decide))
  clear hrow
  go_enter Tryz.func49, Tryz.ntmps49
  go_wp2_with fail
  go_loopw [5] (fun v5 wr => ∃ (k : Nat), k ≤ 4 ∧ v5 = .int .i64 k ∧ Ai.Aside (Mod w wr g ∧ RowB wr g (over xs off ((le4 v).take k)))) (fun v5 _ => 4 - (intOf v5).toNat)
  case atStart => exact ⟨0, by omega, rfl, ⟨HR0.out⟩⟩
  case round =>
    obtain ⟨k, hk, rfl, HR⟩ := hrel
    clear HR0
    match k, hk with
    | 0, _ =>
      obtain ⟨⟨u, hu⟩, hfz⟩ := HR.out.2.at (i := off) (by rw [over_length]; omega)
      have HN := Ai.Aside.mk (HR.out.2.set HR.out.1 off (v % 256))
      go_wp2_with fail
      go_roundw
      case rel => exact ⟨1, by omega, by go_num, ⟨HN.out⟩⟩
      case measure => simp [intOf]
    | 1, _ =>
      obtain ⟨⟨u, hu⟩, hfz⟩ := HR.out.2.at (i := off + 1) (by rw [over_length]; omega)
      have HN := Ai.Aside.mk (HR.out.2.set HR.out.1 (off + 1) (v / 256 % 256))
      go_wp2_with fail
      go_roundw
      case rel => exact ⟨2, by omega, by go_num, ⟨HN.out⟩⟩
      case measure => simp [intOf]
    | 2, _ =>
      obtain ⟨⟨u, hu⟩, hfz⟩ := HR.out.2.at (i := off + 2) (by rw [over_length]; omega)
      have HN := Ai.Aside.mk (HR.out.2.set HR.out.1 (off + 2) (v / 65536 % 256))
      go_wp2_with fail
      go_roundw
      case rel => exact ⟨3, by omega, by go_num, ⟨HN.out⟩⟩
      case measure => simp [intOf]
    | 3, _ =>
      obtain ⟨⟨u, hu⟩, hfz⟩ := HR.out.2.at (i := off + 3) (by rw [over_length]; omega)
      have HN := Ai.Aside.mk (HR.out.2.set HR.out.1 (off + 3) (v / 16777216))
      go_wp2_with fail
      go_roundw
      case rel => exact ⟨4, by omega, by go_num, ⟨HN.out⟩⟩
      case measure => simp [intOf]
    | 4, _ =>
      go_wp2_with fail
      refine bodyPost_end (results_none rfl _ _ _) rfl ?_
      exact ⟨rfl, HR.out.1, HR.out.2⟩
end Lo
end Go.Proofs.YtjmhkcfdmcjilaaGreat
set_option linter.unusedVariables false
set_option linter.unusedSimpArgs false
namespace Go.Proofs.YtjmhkcfdmcjilaaGreat
namespace Lo
open Go.RowKit Ai Fi

theorem bits_or_hi (k : Nat) {a b : Nat} (ha : a < 2 ^ k) (hb : 2 ^ k * b + a < 4294967296) : bits .or .u32 (a : Int) ((2 ^ k * b : Nat) : Int) = ((a + 2 ^ k * b : Nat) : Int) := by
  show IntKind.u32.wrap ((BitVec.ofInt 32 (a : Int) ||| BitVec.ofInt 32 ((2 ^ k * b : Nat) : Int)).toNat : Nat) = _
  have h1 : (BitVec.ofInt 32 (a : Int)).toNat = a := by rw [BitVec.toNat_ofInt]; omega
  have h2 : (BitVec.ofInt 32 ((2 ^ k * b : Nat) : Int)).toNat = 2 ^ k * b := by rw [BitVec.toNat_ofInt]; omega
  rw [BitVec.toNat_or, h1, h2, IntKind.wrap_u32]
  have h3 : a ||| 2 ^ k * b = 2 ^ k * b + a := by rw [Nat.or_comm]; exact (Nat.two_pow_add_eq_or_of_lt ha b).symm
  rw [h3]
  omega

def getI (a b c d : Int) : Int := a + 256 * b + 65536 * c + 16777216 * d

theorem or8 {a b : Int} (ha : 0 ≤ a ∧ a ≤ 255) (hb : 0 ≤ b ∧ b ≤ 255) : bits .or .u32 a (b * 256) = a + 256 * b := by
  have := bits_or_hi 8 (a := a.toNat) (b := b.toNat) (by omega) (by omega)
  have e1 : ((a.toNat : Nat) : Int) = a := by omega
  have e2 : ((2 ^ 8 * b.toNat : Nat) : Int) = b * 256 := by omega
  rw [e1, e2] at this
  rw [this]
  omega
theorem or16 {a b : Int} (ha : 0 ≤ a ∧ a ≤ 65535) (hb : 0 ≤ b ∧ b ≤ 255) : bits .or .u32 a (b * 65536) = a + 65536 * b := by
  have := bits_or_hi 16 (a := a.toNat) (b := b.toNat) (by omega) (by omega)
  have e1 : ((a.toNat : Nat) : Int) = a := by omega
  have e2 : ((2 ^ 16 * b.toNat : Nat) : Int) = b * 65536 := by omega
  rw [e1, e2] at this
  rw [this]
  omega
theorem or24 {a b : Int} (ha : 0 ≤ a ∧ a ≤ 16777215) (hb : 0 ≤ b ∧ b ≤ 255) : bits .or .u32 a (b * 16777216) = a + 16777216 * b := by
  have := bits_or_hi 24 (a := a.toNat) (b := b.toNat) (by omega) (by omega)
  have e1 : ((a.toNat : Nat) : Int) = a := by omega
  have e2 : ((2 ^ 24 * b.toNat : Nat) : Int) = b * 16777216 := by omega
  rw [e1, e2] at this
  rw [this]
  omega
theorem or0 {b : Int} (hb : 0 ≤ b ∧ b ≤ 255) : bits .or .u32 0 b = b := by
  have := bits_or_hi 0 (a := 0) (b := b.toNat) (by omega) (by omega)
  have e2 : ((2 ^ 0 * b.toNat : Nat) : Int) = b := by omega
  rw [e2] at this
  rw [show (0 : Int) = ((0 : Nat) : Int) from rfl, this]
  omega

set_option maxHeartbeats 4000000 in
set_option maxRecDepth 100000 in
theorem get52_ok (w : World) (g off len cap : Nat) (a b c d : Int) (ha : w.cell? ⟨g, off, none⟩ = some (.int .u8 a)) (hb : w.cell? ⟨g, off + 1, none⟩ = some (.int .u8 b)) (hc : w.cell? ⟨g, off + 2, none⟩ = some (.int .u8 c)) (hd : w.cell? ⟨g, off + 3, none⟩ = some (.int .u8 d))
    (hlen : 4 ≤ len) (ka : 0 ≤ a ∧ a ≤ 255) (kb : 0 ≤ b ∧ b ≤ 255) (kc : 0 ≤ c ∧ c ≤ 255) (kd : 0 ≤ d ∧ d ≤ 255) :
    Calls Tryz.prog 52 #[.slice (some ⟨g, off, none⟩) len cap] w fun e w' => e = .returned (.int .u32 (getI a b c d)) ∧ w' = w := by
  have o0 := or0 ka
  have o1 := or8 ka kb
  have o2 := or16 (a := a + 256 * b) (by omega) kc
  have o3 := or24 (a := a + 256 * b + 65536 * c) (by omega) kd
  have HO := Ai.Aside.mk (And.intro o0 (And.intro o1 (And.intro o2 o3)))
  clear o0 o1 o2 o3
  go_enter Tryz.func52, Tryz.ntmps52
  go_wp2_with fail
  go_loopw [5, 3] (fun v5 v3 wr => ∃ (k : Nat) (x : Int), k ≤ 4 ∧ v5 = .int .i64 k ∧ v3 = .int .u32 x ∧ wr = w ∧ Ai.Aside (x = if k = 0 then 0 else if k = 1 then a else if k = 2 then a + 256 * b else if k = 3 then a + 256 * b + 65536 * c else getI a b c d)) (fun v5 _ _ => 4 - (intOf v5).toNat)
  case atStart => exact ⟨0, 0, by omega, rfl, rfl, rfl, ⟨rfl⟩⟩
  case round =>
    obtain ⟨k, x, hk, rfl, rfl, rfl, HX⟩ := hrel
    match k, hk with
    | 0, _ =>
      obtain rfl : x = 0 := HX.out
      go_wp2_with fail
      go_roundw
      case rel => exact ⟨1, a, by omega, by go_num, by rw [HO.out.1], trivial, ⟨rfl⟩⟩
      case measure => simp [intOf]
    | 1, _ =>
      obtain rfl : x = a := HX.out
      go_wp2_with fail
      go_roundw
      case rel => exact ⟨2, _, by omega, by go_num, rfl, trivial, ⟨HO.out.2.1⟩⟩
      case measure => simp [intOf]
    | 2, _ =>
      go_wp2_with fail
      go_roundw
      case rel => exact ⟨3, _, by omega, by go_num, rfl, trivial, ⟨by rw [show x = a + 256 * b from HX.out]; exact HO.out.2.2.1⟩⟩
      case measure => simp [intOf]
    | 3, _ =>
      go_wp2_with fail
      go_roundw
      case rel => exact ⟨4, _, by omega, by go_num, rfl, trivial, ⟨by rw [show x = a + 256 * b + 65536 * c from HX.out]; exact HO.out.2.2.2⟩⟩
      case measure => simp [intOf]
    | 4, _ =>
      obtain rfl : x = getI a b c d := HX.out
      go_wp2_with fail
      go_ret
      exact ⟨rfl, rfl⟩
end Lo
end Go.Proofs.YtjmhkcfdmcjilaaGreat
set_option linter.unusedVariables false
set_option linter.unusedSimpArgs false
namespace Go.Proofs.YtjmhkcfdmcjilaaGreat
namespace Lo
open Go.RowKit Ai Fi

/-- A page. -/
structure Pg where
  k : Int
  lba : Int
  seq : Int
  ep : Int
  gr : Int
  ix : Int
  tot : Int
  pay : List Int

def U32 (x : Int) : Prop := 0 ≤ x ∧ x ≤ 4294967295
structure Pg.Ok (p : Pg) : Prop where
  k : 1 ≤ p.k ∧ p.k ≤ 3
  lba : U32 p.lba
  seq : U32 p.seq
  ep : U32 p.ep
  gr : U32 p.gr
  ix : U32 p.ix
  tot : U32 p.tot
  len : p.pay.length = 32
  byte : ∀ x ∈ p.pay, 0 ≤ x ∧ x ≤ 255

def Pg.nums (p : Pg) : List Int := [p.lba, p.seq, p.ep, p.gr, p.ix, p.tot]
def Pg.cells (p : Pg) : List Value := .int .i64 p.k :: (p.nums.map (Value.int .u32) ++ byI p.pay)
def Pg.V (p : Pg) : Value := .agg p.cells.toArray
def Pg.head (p : Pg) : List Int := [p.k, 0, 0, 0] ++ (p.nums.flatMap le4 ++ p.pay)
def Pg.enc (p : Pg) : List Int := p.head ++ (le4 (crcF 0 p.head) ++ [68, 79, 78, 69])

/-- A page in a block. -/
def PgAt (w : World) (b o : Nat) (p : Pg) : Prop := b < w.heap.size ∧ w.rangeAt b o p.cells

theorem PgAt.below {w w' : World} {b o : Nat} {p : Pg} (h : PgAt w b o p) (hb : Below w.heap.size w w') : PgAt w' b o p :=
  ⟨Nat.lt_of_lt_of_le h.1 hb.size, fun j v hj => by rw [hb.cell h.1]; exact h.2 j v hj⟩
theorem PgAt.mod {w w' : World} {b o g : Nat} {p : Pg} (h : PgAt w b o p) (hm : Mod w w' g) (hne : b ≠ g) : PgAt w' b o p :=
  ⟨Nat.lt_of_lt_of_le h.1 hm.size, fun j v hj => by
    have := h.2 j v hj
    unfold World.cell? at this ⊢
    simp only at this ⊢
    rw [hm.block b h.1 hne]; exact this⟩
theorem PgAt.facts {w : World} {b o : Nat} {p : Pg} (h : PgAt w b o p) : w.cell? ⟨b, o, none⟩ = some (.int .i64 p.k) ∧ w.cell? ⟨b, o + 1, none⟩ = some (.int .u32 p.lba) ∧ w.cell? ⟨b, o + 2, none⟩ = some (.int .u32 p.seq) ∧
    w.cell? ⟨b, o + 3, none⟩ = some (.int .u32 p.ep) ∧ w.cell? ⟨b, o + 4, none⟩ = some (.int .u32 p.gr) ∧ w.cell? ⟨b, o + 5, none⟩ = some (.int .u32 p.ix) ∧ w.cell? ⟨b, o + 6, none⟩ = some (.int .u32 p.tot) :=
  ⟨h.2 0 _ rfl, h.2 1 _ rfl, h.2 2 _ rfl, h.2 3 _ rfl, h.2 4 _ rfl, h.2 5 _ rfl, h.2 6 _ rfl⟩
theorem PgAt.pay {w : World} {b o : Nat} {p : Pg} (h : PgAt w b o p) : ∀ j v, (byI p.pay)[j]? = some v → w.cell? ((⟨b, o + 7, none⟩ : Addr).add j) = some v := fun j v hj => by
  rw [add_addr, Nat.add_assoc]
  refine h.2 (7 + j) v ?_
  rw [Pg.cells, Pg.nums, ← hj, show 7 + j = (j + 6) + 1 by omega]
  rfl
theorem PgAt.new (w : World) (p : Pg) (fr : Nat × Nat) (e : TypeId) : PgAt (w.alloc (.cells p.cells.toArray e fr)) w.heap.size 0 p := by
  have h := heap_alloc_new w (.cells p.cells.toArray e fr)
  exact ⟨by simp, fun j v hj => by rw [cell_of_row _ _ _ _ _ _ h, Nat.zero_add]; simpa using hj⟩

/-- What stands in the row behind so many numbers. -/
def Pg.rowK (p : Pg) (j : Nat) : List Int := [p.k, 0, 0, 0] ++ ((p.nums.take j).flatMap le4 ++ List.replicate (64 - 4 * j) 0)

theorem RowB.made (w : World) (n : Nat) : RowB (w.alloc (.cells (madeCells (Value.cells (.int .u8 0)) n) 5)) w.heap.size (List.replicate n 0) := by
  unfold RowB
  rw [heap_alloc_new]
  congr 2
  apply Array.ext'
  simp only [madeCells, Value.cells, byI, List.map_replicate]
  apply List.ext_getElem (by simp)
  intro i h1 h2
  simp
  rw [Nat.mod_one]; rfl

theorem kind3B_ok (w : World) (k : Int) (h : 1 ≤ k ∧ k ≤ 3) : Calls Tryz.prog 48 #[.int .i64 k] w fun e w' => e = .returned (.bool true) ∧ w' = w := by
  have : k = 1 ∨ k = 2 ∨ k = 3 := by omega
  rcases this with rfl | rfl | rfl
  all_goals
    go_enter Tryz.func48, Tryz.ntmps48
    go_wp2_with fail
    go_ret
    exact ⟨rfl, rfl⟩

theorem rowK_len (p : Pg) (j : Nat) (hj : j ≤ 6) : (p.rowK j).length = 68 := by
  rcases j with _ | _ | _ | _ | _ | _ | _ | j <;> first | rfl | omega

theorem row_step (p : Pg) (j : Nat) (x : Int) (hx : p.nums[j]? = some x) : over (p.rowK j) (4 + 4 * j) (le4 x) = p.rowK (j + 1) := by
  rcases j with _ | _ | _ | _ | _ | _ | j
  · cases hx; rfl
  · cases hx; rfl
  · cases hx; rfl
  · cases hx; rfl
  · cases hx; rfl
  · cases hx; rfl
  · simp [Pg.nums] at hx

theorem step_copy_row {P : Program} {ops : Array Oper} {o : Oper} {a : Act} {w : World} {K : Act → World → Prop} {Q : Exit → Act → World → Prop} {E : Prop} (hgd : o.guard = none) (d s : Operand) (dT sT : TypeId)
    (ho : o.op = .call { callee := .builtin .copy, args := #[d, s], argTypes := #[dT, sT] }) (elem : TypeId) (hu : P.underlying dT = some (.slice elem)) (hsz : (P.info? elem).map (·.size) = some 1)
    (g off dLen dCap sLen sCap : Nat) (ad : Addr) (hd : a.eval d = .slice (some ⟨g, off, none⟩) dLen dCap) (hs : a.eval s = .slice (some ad) sLen sCap)
    (bs cs : List Int) (hg : RowB w g bs) (hn : cs.length = Nat.min sLen dLen) (hsrc : ∀ j v, (byI cs)[j]? = some v → w.cell? (ad.add j) = some v) (hfit : off + cs.length ≤ bs.length)
    (h : ∀ w', Mod w w' g → RowB w' g (splice bs off cs) → K (a.put o.dst (goInt cs.length)) w') :
    if Region.wanted o (yielded ops a.tmps) = true then Oper.wp P o a w K Q else E := by
  have hw : Region.wanted o (yielded ops a.tmps) = true := by simp [Region.wanted, hgd]
  rw [if_pos hw]
  have hrun := run_copy_row (P := P) w dT sT o.type elem g off dLen dCap ad sLen sCap (byI bs).toArray 5 (byI cs) hu hsz hg (by simpa [byI] using hn) hsrc (by simpa [byI] using hfit) (by
    intro v hv
    simp only [byI, List.mem_map] at hv
    obtain ⟨x, _, rfl⟩ := hv
    rfl)
  unfold Oper.wp
  simp [execOp, ho, resolve, invoke, builtin, hd, hs, hrun, Result.andThen]
  have e : (byI cs).length = cs.length := by simp [byI]
  rw [e]
  refine h _ ⟨rfl, rfl, rfl, by simp [World.setRow], fun k _ hk => setRow_other w g k _ hk⟩ ?_
  unfold RowB
  rw [setRow_heap w g _ _ 5 _ hg]
  congr 2
  simp [splice, byI]

theorem wpList_copy_str {P : Program} {w : World} {ops : Array Oper} {rest : List Oper} {o : Oper} {a : Act} {Q : Exit → Act → World → Prop} (hgd : o.guard = none) (d s : Operand) (dT sT : TypeId)
    (ho : o.op = .call { callee := .builtin .copy, args := #[d, s], argTypes := #[dT, sT] }) (elem : TypeId) (hu : P.underlying dT = some (.slice elem)) (hsz : (P.info? elem).map (·.size) = some 1)
    (g off dLen dCap : Nat) (st : ByteArray) (hd : a.eval d = .slice (some ⟨g, off, none⟩) dLen dCap) (hs : a.eval s = .string st)
    (bs cs : List Int) (hg : RowB w g bs) (hcs : st.data.toList.map (fun b : UInt8 => ((b.toNat : Nat) : Int)) = cs) (hn : cs.length ≤ dLen) (hfit : off + cs.length ≤ bs.length)
    (h : ∀ w', Mod w w' g → RowB w' g (splice bs off cs) → wpList P ops Q rest (a.put o.dst (goInt cs.length)) w') : wpList P ops Q (o :: rest) a w := by
  have hlen : st.size = cs.length := by rw [← hcs, List.length_map]; rfl
  have hmin : Nat.min st.size dLen = st.size := Nat.min_eq_left (by omega)
  have hst := run_storeCells_at P g off 5 (byI cs) 0 (byI bs).toArray w hg (by simpa [byI] using hfit) (by
    intro v hv
    simp only [byI, List.mem_map] at hv
    obtain ⟨x, _, rfl⟩ := hv
    rfl)
  have htk : List.take st.size (List.map (fun b : UInt8 => Value.int IntKind.u8 (b.toNat : Int)) st.data.toList) = byI cs := by
    rw [List.take_of_length_le (by rw [List.length_map]; exact Nat.le_refl _), ← hcs, byI, List.map_map]
    rfl
  have hrun : (Builtin.copy_ #[dT, sT] o.type #[.slice (some ⟨g, off, none⟩) dLen dCap, .string st]).run P w = .ok (goInt st.size) (w.setRow g ((byI bs).toArray.toList.take (off + 0) ++ byI cs ++ (byI bs).toArray.toList.drop (off + 0 + (byI cs).length)).toArray) := by
    cases hq : P.info? elem with
    | none => simp [hq] at hsz
    | some i =>
      simp [Builtin.copy_, run_underlying hu, Builtin.lenOf, Builtin.firstCells, sizeOf, typeInfo, hq, hmin]
      rw [htk, hst]
      simp [Result.andThen]
  refine wpList_plain hgd fun K hK => ?_
  unfold Oper.wp
  simp [execOp, ho, resolve, invoke, builtin, hd, hs, hrun, Result.andThen]
  rw [hlen]
  refine hK _ _ (h _ ⟨rfl, rfl, rfl, by simp [World.setRow], fun k _ hk => setRow_other w g k _ hk⟩ ?_)
  unfold RowB
  rw [setRow_heap w g _ _ 5 _ hg]
  congr 2
  simp [splice, byI]
end Lo
end Go.Proofs.YtjmhkcfdmcjilaaGreat
/- Walk of the codec: tag.Encode. -/
set_option linter.unusedVariables false
set_option linter.unusedSimpArgs false
namespace Go.Proofs.YtjmhkcfdmcjilaaGreat
namespace Lo
open Go.RowKit Ai Fi

def EncPost (w : World) (p : Pg) (e : Ending) (w' : World) : Prop := ∃ g, e = .returned (.tuple #[.slice (some ⟨g, 0, none⟩) 68 68, .int .i64 0]) ∧ w.heap.size ≤ g ∧ RowB w' g p.enc ∧ Below w.heap.size w w'

theorem byteSize : (Tryz.prog.info? 5).map (·.size) = some 1 := by kernel_rfl

theorem wpList_make_bytes {P : Program} {w : World} {ops : Array Oper} {rest : List Oper} {o : Oper} {a : Act} {Q : Exit → Act → World → Prop} (hg : o.guard = none) (l c : Operand) (t : TypeId) (hop : o.op = Op.makeSlice t l c)
    (i : TypeInfo) (h1 : P.underlying t = some (.slice 5)) (h2 : P.info? 5 = some i) (h3 : i.zero = some (.int .u8 0)) (h4 : i.size = 1) (h5 : i.bytes = 1)
    (n : Nat) (hl : a.eval l = .int .i64 n) (hc : a.eval c = .int .i64 n) (hn : n ≤ 100000000)
    (hK : ∀ w', RowB w' w.heap.size (List.replicate n 0) → Below w.heap.size w w' → wpList P ops Q rest (a.put o.dst (.slice (some ⟨w.heap.size, 0, none⟩) n n)) w') : wpList P ops Q (o :: rest) a w := by
  have hrun := run_make (P := P) w t 5 i _ h1 h2 h3 .i64 .i64 n n (by omega) (Int.le_refl _) (by rw [h5]; omega) (by omega)
  rw [h4, Nat.mul_one, Int.toNat_natCast] at hrun
  refine wpList_plain hg fun K hK' => ?_
  unfold Oper.wp
  simp [execOp, hop, hl, hc, hrun, Result.andThen]
  exact hK' _ _ (hK _ (RowB.made w n) ((Below.refl w.heap.size w).alloc (Nat.le_refl _) _))

theorem wpList_index {P : Program} {w : World} {ops : Array Oper} {rest : List Oper} {o : Oper} {a : Act} {Q : Exit → Act → World → Prop} (hg : o.guard = none) (x i : Operand) (t : TypeId) (hop : o.op = Op.index t x i)
    (vx vi v : Value) (hx : a.eval x = vx) (hi : a.eval i = vi) (hrun : (Instr.index t vx vi).run P w = .ok v w)
    (hK : wpList P ops Q rest (a.put o.dst v) w) : wpList P ops Q (o :: rest) a w := by
  refine wpList_plain hg fun K hK' => ?_
  unfold Oper.wp
  simp [execOp, hop, hx, hi, hrun, Result.andThen]
  exact hK' _ _ hK

theorem index6 (w : World) (a0 a1 a2 a3 a4 a5 : Int) (j : Nat) (hj : j < 6) : (Instr.index 101 (.agg #[.int .u32 a0, .int .u32 a1, .int .u32 a2, .int .u32 a3, .int .u32 a4, .int .u32 a5]) (.int .i64 (j : Int))).run Tryz.prog w = .ok (.int .u32 (([a0, a1, a2, a3, a4, a5] : List Int).getD j 0)) w := by
  rcases j with _ | _ | _ | _ | _ | _ | j
  all_goals first | (exfalso; omega) | kernel_rfl

theorem below_drew {B : Nat} {a w : World} (h : Below B a w) : Below B a w.drew := ⟨h.os, h.tape, h.output, h.size, h.block⟩

theorem head_len (p : Pg) (h : p.pay.length = 32) : p.head.length = 60 := by
  simp [Pg.head, Pg.nums, le4, h]

theorem splice_mid (a b c x : List Int) (h : b.length = x.length) : splice (a ++ (b ++ c)) a.length x = a ++ (x ++ c) := by
  unfold splice
  rw [List.take_left', ← h, ← List.drop_drop, List.drop_left', List.drop_left'] <;> rfl

theorem over_splice (off : Nat) : ∀ (x l : List Int), off + x.length ≤ l.length → over l off x = splice l off x
  | [], l, _ => by simp [over, splice]
  | y :: r, l, h => by
    simp only [List.length_cons] at h
    rw [over, over_splice (off + 1) r (l.set off y) (by rw [List.length_set]; omega)]
    unfold splice
    rw [List.take_set, List.drop_set_of_lt (by omega)]
    rw [List.take_add_one, List.set_append]
    simp
    have h1 : (List.take off l).length = off := by simp; omega
    have h2 : l[off]? = some l[off] := List.getElem?_eq_getElem (by omega)
    have h3 : min off l.length = off := Nat.min_eq_left (by omega)
    rw [h2]
    simp [h1, h3]
    rw [show off + (r.length + 1) = off + 1 + r.length by omega]

theorem head_splice (p : Pg) (h : p.pay.length = 32) : splice (p.rowK 6) 28 p.pay = p.head ++ List.replicate 8 0 := by
  have := splice_mid ([p.k, 0, 0, 0] ++ p.nums.flatMap le4) (List.replicate 32 0) (List.replicate 8 0) p.pay (by simp [h])
  have e : p.rowK 6 = [p.k, 0, 0, 0] ++ p.nums.flatMap le4 ++ (List.replicate 32 0 ++ List.replicate 8 0) := by rfl
  rw [e, show (28 : Nat) = ([p.k, 0, 0, 0] ++ p.nums.flatMap le4).length by rfl, this]
  simp [Pg.head]

theorem head_over (p : Pg) (h : p.pay.length = 32) {v : Int} : over (p.head ++ List.replicate 8 0) 60 (le4 v) = p.head ++ (le4 v ++ List.replicate 4 0) := by
  rw [over_splice _ _ _ (by rw [List.length_append, head_len p h]; simp [le4])]
  have := splice_mid p.head (List.replicate 4 0) (List.replicate 4 0) (le4 v) (by simp [le4])
  rw [head_len p h] at this
  exact this

theorem enc_splice (p : Pg) (h : p.pay.length = 32) (v : Int) : splice (p.head ++ (le4 v ++ List.replicate 4 0)) 64 [68, 79, 78, 69] = p.head ++ (le4 v ++ [68, 79, 78, 69]) := by
  have := splice_mid (p.head ++ le4 v) (List.replicate 4 0) [] [68, 79, 78, 69] (by simp)
  rw [List.length_append, head_len p h] at this
  simpa [le4] using this

theorem le4_byte {v : Int} (h : U32 v) : ∀ x ∈ le4 v, 0 ≤ x ∧ x ≤ 255 := by
  intro x hx
  simp only [le4, List.mem_cons, List.not_mem_nil, or_false] at hx
  unfold U32 at h
  rcases hx with rfl | rfl | rfl | rfl <;> omega

theorem head_byte {p : Pg} (h : p.Ok) : ∀ x ∈ p.head, 0 ≤ x ∧ x ≤ 255 := by
  intro x hx
  simp only [Pg.head, List.mem_append, List.mem_flatMap, Pg.nums] at hx
  rcases hx with hx | ⟨y, hy, hx⟩ | hx
  · simp only [List.mem_cons, List.not_mem_nil, or_false] at hx
    have := h.k
    rcases hx with rfl | rfl | rfl | rfl <;> omega
  · simp only [List.mem_cons, List.not_mem_nil, or_false] at hy
    rcases hy with rfl | rfl | rfl | rfl | rfl | rfl
    · exact le4_byte h.lba x hx
    · exact le4_byte h.seq x hx
    · exact le4_byte h.ep x hx
    · exact le4_byte h.gr x hx
    · exact le4_byte h.ix x hx
    · exact le4_byte h.tot x hx
  · exact h.byte x hx

theorem bits_range (op : BinOp) (a b : Int) (hop : op = .xor ∨ op = .and ∨ op = .or) : U32 (bits op .u32 a b) := by
  rcases hop with rfl | rfl | rfl
  all_goals
    show U32 (IntKind.u32.wrap _)
    rw [IntKind.wrap_u32]
    unfold U32
    omega

theorem crcF_range (c : Int) (bs : List Int) : U32 (crcF c bs) := bits_range _ _ _ (.inl rfl)

set_option maxHeartbeats 4000000 in
set_option maxRecDepth 100000 in
theorem enc16_ok (w : World) (p : Pg) (hp : p.Ok) : Calls Tryz.prog 16 #[p.V] w (EncPost w p) := by
  have HOK := Ai.Aside.mk hp
  have HP0 := Ai.Aside.mk (PgAt.new w p (0, 0) 55)
  have HB0 := Ai.Aside.mk ((Below.refl w.heap.size w).alloc (Nat.le_refl _) (.cells p.cells.toArray 55))
  have hk := hp.k
  unfold Pg.V
  generalize p.cells.toArray = arr at *
  obtain ⟨i0, hi, hz0, hz1, hz2⟩ := info_parts info5
  clear hp
  go_enter Tryz.func16, Tryz.ntmps16
  go_upto_region 1 with (fail)
  obtain ⟨b, hb⟩ : ∃ b, b = w.heap.size := ⟨_, rfl⟩
  rw [← hb] at HP0
  rw [← hb]
  have HBW := Ai.Aside.mk hb
  clear hb
  generalize World.alloc w _ = w1 at HP0 HB0 ⊢
  obtain ⟨c0, -⟩ := HP0.out.facts
  go_upto_region 3 with (first | (go_at_call 48; go_loud (refine (kind3B_ok _ _ hk).mono ?_; rintro e w2 ⟨rfl, hw⟩; have hw2 := hw.symm; clear hw; subst hw2)))
  go_upto_region 4 with (first | (refine wpList_make_bytes rfl _ _ 37 rfl i0 Tryz.underlying37 hi hz0 hz1 hz2 68 rfl rfl (by omega) ?_; intro w3 hrow hbel; have HR3 := Ai.Aside.mk hrow; have HP3 := Ai.Aside.mk (HP0.out.below hbel); have HB3 := Ai.Aside.mk (HB0.out.trans (hbel.mono HB0.out.size)); clear hrow hbel c0))
  obtain ⟨g, hg⟩ : ∃ g, g = w1.heap.size := ⟨_, rfl⟩
  have HGW := Ai.Aside.mk (show w.heap.size ≤ g ∧ b ≠ g from ⟨by have := HB0.out.size; omega, by have := HP0.out.1; omega⟩)
  rw [← hg] at HR3 ⊢
  clear hg HP0 HB0
  obtain ⟨c0, c1, c2, c3, c4, c5, c6⟩ := HP3.out.facts
  simp only [Nat.zero_add] at c1 c2 c3 c4 c5 c6
  obtain ⟨⟨u, hu⟩, hfz⟩ := HR3.out.at (i := 0) (by simp)
  have hkm : p.k % 256 = p.k := by omega
  have HN := Ai.Aside.mk (HR3.out.set (Mod.of_below (Below.refl _ _) g) 0 p.k)
  go_upto_region 5 with (fail)
  have HR4 := Ai.Aside.mk (show RowB (w3.setCell ⟨g, 0, none⟩ (.int .u8 p.k)) g (p.rowK 0) from HN.out.2)
  have HP4 := Ai.Aside.mk (HP3.out.mod HN.out.1 HGW.out.2)
  have HB4 := Ai.Aside.mk (HN.out.1.below HB3.out HB3.out.size HGW.out.1)
  clear HR3 HP3 HB3 HN hu hfz c0 c1 c2 c3 c4 c5 c6
  generalize World.setCell w3 _ _ = w4 at HR4 HP4 HB4 ⊢
  obtain ⟨c0, c1, c2, c3, c4, c5, c6⟩ := HP4.out.facts
  simp only [Nat.zero_add] at c1 c2 c3 c4 c5 c6
  go_upto_region 6 with (fail)
  clear c0 c1 c2 c3 c4 c5 c6
  go_loopw [30] (fun v30 wr => ∃ (j : Nat), j ≤ 6 ∧ v30 = .int .i64 j ∧ Ai.Aside (RowB wr g (p.rowK j) ∧ PgAt wr b 0 p ∧ Below w.heap.size w wr)) (fun v30 _ => 6 - (intOf v30).toNat)
  case atStart => exact ⟨0, by omega, rfl, ⟨HR4.out, HP4.out, HB4.out⟩⟩
  case round =>
    obtain ⟨j, hj, rfl, HR⟩ := hrel
    clear HR4 HP4 HB4
    match j, hj with
    | 0, _ =>
      have HC := Ai.Aside.mk (put49_ok wr g 4 64 64 (p.rowK 0) p.lba HR.out.1 (by rw [rowK_len p 0 (by omega)]; omega) (by omega) HOK.out.lba.1 HOK.out.lba.2)
      have HS := Ai.Aside.mk (show over (p.rowK 0) 4 (le4 p.lba) = p.rowK 1 from row_step p 0 p.lba rfl)
      go_wp2_with (first | (refine wpList_index rfl (.tmp 29) (.tmp 30) 101 rfl _ _ (.int .u32 p.lba) rfl rfl (index6 wr p.lba p.seq p.ep p.gr p.ix p.tot 0 (by omega)) ?_) | (go_at_call 49; go_loud (refine HC.out.mono ?_; rintro e w5 ⟨rfl, hm5, hr5⟩; have HR5 := Ai.Aside.mk (show RowB w5 g (p.rowK 1) by rw [← HS.out]; exact hr5); have HP5 := Ai.Aside.mk (HR.out.2.1.mod hm5 HGW.out.2); have HB5 := Ai.Aside.mk (hm5.below HR.out.2.2 HR.out.2.2.size HGW.out.1); clear hm5 hr5)))
      go_roundw
      case rel => exact ⟨1, by omega, by go_num, ⟨HR5.out, HP5.out, HB5.out⟩⟩
      case measure => simp [intOf]
    | 1, _ =>
      have HC := Ai.Aside.mk (put49_ok wr g 8 60 60 (p.rowK 1) p.seq HR.out.1 (by rw [rowK_len p 1 (by omega)]; omega) (by omega) HOK.out.seq.1 HOK.out.seq.2)
      have HS := Ai.Aside.mk (show over (p.rowK 1) 8 (le4 p.seq) = p.rowK 2 from row_step p 1 p.seq rfl)
      go_wp2_with (first | (refine wpList_index rfl (.tmp 29) (.tmp 30) 101 rfl _ _ (.int .u32 p.seq) rfl rfl (index6 wr p.lba p.seq p.ep p.gr p.ix p.tot 1 (by omega)) ?_) | (go_at_call 49; go_loud (refine HC.out.mono ?_; rintro e w5 ⟨rfl, hm5, hr5⟩; have HR5 := Ai.Aside.mk (show RowB w5 g (p.rowK 2) by rw [← HS.out]; exact hr5); have HP5 := Ai.Aside.mk (HR.out.2.1.mod hm5 HGW.out.2); have HB5 := Ai.Aside.mk (hm5.below HR.out.2.2 HR.out.2.2.size HGW.out.1); clear hm5 hr5)))
      go_roundw
      case rel => exact ⟨2, by omega, by go_num, ⟨HR5.out, HP5.out, HB5.out⟩⟩
      case measure => simp [intOf]
    | 2, _ =>
      have HC := Ai.Aside.mk (put49_ok wr g 12 56 56 (p.rowK 2) p.ep HR.out.1 (by rw [rowK_len p 2 (by omega)]; omega) (by omega) HOK.out.ep.1 HOK.out.ep.2)
      have HS := Ai.Aside.mk (show over (p.rowK 2) 12 (le4 p.ep) = p.rowK 3 from row_step p 2 p.ep rfl)
      go_wp2_with (first | (refine wpList_index rfl (.tmp 29) (.tmp 30) 101 rfl _ _ (.int .u32 p.ep) rfl rfl (index6 wr p.lba p.seq p.ep p.gr p.ix p.tot 2 (by omega)) ?_) | (go_at_call 49; go_loud (refine HC.out.mono ?_; rintro e w5 ⟨rfl, hm5, hr5⟩; have HR5 := Ai.Aside.mk (show RowB w5 g (p.rowK 3) by rw [← HS.out]; exact hr5); have HP5 := Ai.Aside.mk (HR.out.2.1.mod hm5 HGW.out.2); have HB5 := Ai.Aside.mk (hm5.below HR.out.2.2 HR.out.2.2.size HGW.out.1); clear hm5 hr5)))
      go_roundw
      case rel => exact ⟨3, by omega, by go_num, ⟨HR5.out, HP5.out, HB5.out⟩⟩
      case measure => simp [intOf]
    | 3, _ =>
      have HC := Ai.Aside.mk (put49_ok wr g 16 52 52 (p.rowK 3) p.gr HR.out.1 (by rw [rowK_len p 3 (by omega)]; omega) (by omega) HOK.out.gr.1 HOK.out.gr.2)
      have HS := Ai.Aside.mk (show over (p.rowK 3) 16 (le4 p.gr) = p.rowK 4 from row_step p 3 p.gr rfl)
      go_wp2_with (first | (refine wpList_index rfl (.tmp 29) (.tmp 30) 101 rfl _ _ (.int .u32 p.gr) rfl rfl (index6 wr p.lba p.seq p.ep p.gr p.ix p.tot 3 (by omega)) ?_) | (go_at_call 49; go_loud (refine HC.out.mono ?_; rintro e w5 ⟨rfl, hm5, hr5⟩; have HR5 := Ai.Aside.mk (show RowB w5 g (p.rowK 4) by rw [← HS.out]; exact hr5); have HP5 := Ai.Aside.mk (HR.out.2.1.mod hm5 HGW.out.2); have HB5 := Ai.Aside.mk (hm5.below HR.out.2.2 HR.out.2.2.size HGW.out.1); clear hm5 hr5)))
      go_roundw
      case rel => exact ⟨4, by omega, by go_num, ⟨HR5.out, HP5.out, HB5.out⟩⟩
      case measure => simp [intOf]
    | 4, _ =>
      have HC := Ai.Aside.mk (put49_ok wr g 20 48 48 (p.rowK 4) p.ix HR.out.1 (by rw [rowK_len p 4 (by omega)]; omega) (by omega) HOK.out.ix.1 HOK.out.ix.2)
      have HS := Ai.Aside.mk (show over (p.rowK 4) 20 (le4 p.ix) = p.rowK 5 from row_step p 4 p.ix rfl)
      go_wp2_with (first | (refine wpList_index rfl (.tmp 29) (.tmp 30) 101 rfl _ _ (.int .u32 p.ix) rfl rfl (index6 wr p.lba p.seq p.ep p.gr p.ix p.tot 4 (by omega)) ?_) | (go_at_call 49; go_loud (refine HC.out.mono ?_; rintro e w5 ⟨rfl, hm5, hr5⟩; have HR5 := Ai.Aside.mk (show RowB w5 g (p.rowK 5) by rw [← HS.out]; exact hr5); have HP5 := Ai.Aside.mk (HR.out.2.1.mod hm5 HGW.out.2); have HB5 := Ai.Aside.mk (hm5.below HR.out.2.2 HR.out.2.2.size HGW.out.1); clear hm5 hr5)))
      go_roundw
      case rel => exact ⟨5, by omega, by go_num, ⟨HR5.out, HP5.out, HB5.out⟩⟩
      case measure => simp [intOf]
    | 5, _ =>
      have HC := Ai.Aside.mk (put49_ok wr g 24 44 44 (p.rowK 5) p.tot HR.out.1 (by rw [rowK_len p 5 (by omega)]; omega) (by omega) HOK.out.tot.1 HOK.out.tot.2)
      have HS := Ai.Aside.mk (show over (p.rowK 5) 24 (le4 p.tot) = p.rowK 6 from row_step p 5 p.tot rfl)
      go_wp2_with (first | (refine wpList_index rfl (.tmp 29) (.tmp 30) 101 rfl _ _ (.int .u32 p.tot) rfl rfl (index6 wr p.lba p.seq p.ep p.gr p.ix p.tot 5 (by omega)) ?_) | (go_at_call 49; go_loud (refine HC.out.mono ?_; rintro e w5 ⟨rfl, hm5, hr5⟩; have HR5 := Ai.Aside.mk (show RowB w5 g (p.rowK 6) by rw [← HS.out]; exact hr5); have HP5 := Ai.Aside.mk (HR.out.2.1.mod hm5 HGW.out.2); have HB5 := Ai.Aside.mk (hm5.below HR.out.2.2 HR.out.2.2.size HGW.out.1); clear hm5 hr5)))
      go_roundw
      case rel => exact ⟨6, by omega, by go_num, ⟨HR5.out, HP5.out, HB5.out⟩⟩
      case measure => simp [intOf]
    | 6, _ =>
      have HPAY := Ai.Aside.mk HR.out.2.1.pay
      have hpl := HOK.out.len
      go_upto_region 10 with (fail)
      go_region_law (refine step_copy_row rfl (.tmp 43) (.tmp 45) 37 37 rfl 5 Tryz.underlying37 byteSize g 28 32 40 32 32 ⟨b, 7, none⟩ rfl rfl (p.rowK 6) p.pay HR.out.1 (by rw [hpl]; rfl) HPAY.out (by rw [rowK_len p 6 (by omega), hpl]; omega) ?_; intro w5 hm5 hr5)
      have HR5 := Ai.Aside.mk (show RowB w5 g (p.head ++ List.replicate 8 0) by rw [← (head_splice p hpl)]; exact hr5)
      have HB5 := Ai.Aside.mk (hm5.below (below_drew HR.out.2.2) HR.out.2.2.size HGW.out.1)
      have hhl := head_len p hpl
      have HBT := Ai.Aside.mk (show Bts w5.drew g 0 p.head from ⟨HR5.out.lt, fun i x hx => ⟨by rw [Nat.zero_add]; exact HR5.out.cell (by rw [List.getElem?_append_left (List.getElem?_eq_some_iff.1 hx).1]; exact hx), head_byte HOK.out x (List.mem_of_getElem? hx)⟩⟩)
      have HSUM := Ai.Aside.mk (sum_ok w5.drew g 0 68 p.head HBT.out (by omega))
      have hcr := crcF_range 0 p.head
      rw [hhl] at HSUM
      clear hr5 hm5 HPAY HR
      obtain ⟨cr, hcrE⟩ : ∃ cr, cr = crcF 0 p.head := ⟨_, rfl⟩
      rw [← hcrE] at HSUM hcr
      have HPUT := Ai.Aside.mk (put49_ok w5.drew g 60 8 8 (p.head ++ List.replicate 8 0) cr HR5.out (by rw [List.length_append, hhl]; simp) (by omega) hcr.1 hcr.2)
      have HCR := Ai.Aside.mk hcrE
      clear hcrE hcr
      go_upto_region 11 with (fail)
      go_region_with (first | (go_at_call 50; refine HSUM.out.mono ?_; rintro e w6 ⟨rfl, hw⟩; have hw2 := hw.symm; clear hw; subst hw2) | (go_at_call 49; refine HPUT.out.mono ?_; rintro e w6 ⟨rfl, hm6, hr6⟩))
      have HR6 := Ai.Aside.mk (show RowB w6 g (p.head ++ (le4 cr ++ List.replicate 4 0)) by rw [← head_over p hpl]; exact hr6)
      have HB6 := Ai.Aside.mk (hm6.below (below_drew HB5.out) HB5.out.size HGW.out.1)
      clear HPUT HR5 HB5 hm6 hr6 HSUM
      go_upto_region 13 with (first | (refine wpList_copy_str rfl (.tmp 54) _ 37 9 rfl 5 Tryz.underlying37 byteSize g 64 4 4 _ rfl rfl (p.head ++ (le4 cr ++ List.replicate 4 0)) [68, 79, 78, 69] HR6.out (by decide +kernel) (by decide) (by rw [List.length_append, hhl]; simp [le4]) ?_; intro w7 hm7 hr7))
      have HB7 := Ai.Aside.mk (hm7.below HB6.out HB6.out.size HGW.out.1)
      have HR7 := Ai.Aside.mk (show RowB w7 g p.enc by rw [show p.enc = splice (p.head ++ (le4 cr ++ List.replicate 4 0)) 64 [68, 79, 78, 69] by rw [HCR.out]; exact (enc_splice p hpl _).symm]; exact hr7)
      clear hm7 hr7
      go_wp2_with fail
      go_ret2
      exact ⟨g, rfl, HGW.out.1, HR7.out, HB7.out⟩
end Lo
end Go.Proofs.YtjmhkcfdmcjilaaGreat
set_option linter.unusedVariables false
set_option linter.unusedSimpArgs false
namespace Go.Proofs.YtjmhkcfdmcjilaaGreat
namespace Lo
open Go.RowKit Ai Fi

/-- How many of a row's bytes are c. -/
def cnt (c : Int) : List Int → Nat
  | [] => 0
  | x :: r => (if x = c then 1 else 0) + cnt c r

theorem cnt_le (c : Int) : ∀ l, cnt c l ≤ l.length
  | [] => Nat.le_refl _
  | x :: r => by rw [cnt, List.length_cons]; have := cnt_le c r; split <;> omega

theorem toU8 {x c : Int} (hx : 0 ≤ x ∧ x ≤ 255) (hc : 0 ≤ c ∧ c ≤ 255) : (x.toNat.toUInt8 == c.toNat.toUInt8) = decide (x = c) := by
  apply Bool.eq_iff_iff.2
  rw [beq_iff_eq, decide_eq_true_eq]
  constructor
  · intro h
    have := congrArg UInt8.toNat h
    simp at this
    omega
  · intro h; rw [h]

theorem fold_cnt {c : Int} (hc : 0 ≤ c ∧ c ≤ 255) : ∀ (l : List Int) (n : Int), (∀ x ∈ l, 0 ≤ x ∧ x ≤ 255) → (Lib.bytesOf l).foldl (fun (n : Int) x => if (x == c.toNat.toUInt8) = true then n + 1 else n) n = n + cnt c l
  | [], n, _ => by simp [Lib.bytesOf, cnt]
  | x :: r, n, h => by
    have hx := h x (.head _)
    have ih := fold_cnt hc r
    have e : Lib.bytesOf (x :: r) = x.toNat.toUInt8 :: Lib.bytesOf r := rfl
    rw [e, List.foldl_cons, ih _ (fun y hy => h y (.tail _ hy)), toU8 hx hc, cnt]
    by_cases h1 : x = c
    · simp [h1]; omega
    · simp [h1]

theorem Bts.byte {w : World} {g off : Nat} {bs : List Int} (h : Bts w g off bs) : ∀ x ∈ bs, 0 ≤ x ∧ x ≤ 255 := by
  intro x hx
  obtain ⟨i, hi, e⟩ := List.getElem_of_mem hx
  exact (h.2 i x (by rw [List.getElem?_eq_getElem hi, e])).2
theorem Bts.below {w w' : World} {g off : Nat} {bs : List Int} (h : Bts w g off bs) (hb : Below w.heap.size w w') : Bts w' g off bs :=
  ⟨Nat.lt_of_lt_of_le h.1 hb.size, fun i x hx => ⟨by rw [hb.cell h.1]; exact (h.2 i x hx).1, (h.2 i x hx).2⟩⟩
theorem Bts.sub {w : World} {g off : Nat} {bs : List Int} (h : Bts w g off bs) (k : Nat) : Bts w g (off + k) (bs.drop k) :=
  ⟨h.1, fun i x hx => by rw [List.getElem?_drop] at hx; rw [Nat.add_assoc]; exact h.2 (k + i) x hx⟩
theorem Bts.take {w : World} {g off : Nat} {bs : List Int} (h : Bts w g off bs) (k : Nat) : Bts w g off (bs.take k) :=
  ⟨h.1, fun i x hx => by
    have : bs[i]? = some x := by
      rw [List.getElem?_take] at hx
      split at hx
      · exact hx
      · cases hx
    exact h.2 i x this⟩
theorem Bts.mod {w w' : World} {g off q : Nat} {bs : List Int} (h : Bts w g off bs) (hm : Mod w w' q) (hne : g ≠ q) : Bts w' g off bs :=
  ⟨Nat.lt_of_lt_of_le h.1 hm.size, fun i x hx => ⟨by
    have := (h.2 i x hx).1
    unfold World.cell? at this ⊢
    simp only at this ⊢
    rw [hm.block g h.1 hne]; exact this, (h.2 i x hx).2⟩⟩

theorem RowB.bts {w : World} {g : Nat} {bs : List Int} (h : RowB w g bs) (hb : ∀ x ∈ bs, 0 ≤ x ∧ x ≤ 255) : Bts w g 0 bs :=
  ⟨h.lt, fun i x hx => ⟨by rw [Nat.zero_add]; exact h.cell hx, hb x (List.mem_of_getElem? hx)⟩⟩

theorem ext_countB (w : World) (g off cap : Nat) (bs : List Int) (c : Int) (hc : 0 ≤ c ∧ c ≤ 255) (h : Bts w g off bs) :
    (callFunc 124 #[.slice (some ⟨g, off, none⟩) bs.length cap, .int .u8 c]).run Tryz.prog w = .ok (.value (.int .i64 (cnt c bs))) w := by
  have hl := Lib.run_loadBytesX (P := Tryz.prog) w bs ⟨g, off, none⟩ .empty (fun j x hj => by
    rw [add_addr]
    exact (h.2 j x hj).1)
  have hrun := run_callFunc_extern (P := Tryz.prog) (f := 124) (fn := Tryz.f124) (e := Extern.BytealgCount.count) Tryz.func124 (by kernel_rfl) rfl (by kernel_rfl) (by kernel_rfl)
    #[.slice (some ⟨g, off, none⟩) bs.length cap, .int .u8 c] w
  have hcount : (Extern.BytealgCount.count #[.slice (some ⟨g, off, none⟩) bs.length cap, .int .u8 c]).run Tryz.prog w = .ok (.int .i64 (cnt c bs)) w := by
    change Sem.run Tryz.prog (do
      let b ← Extern.Bytes.bytesOf (.slice (some ⟨g, off, none⟩) bs.length cap)
      let c' ← Extern.Bytes.asByte (.int .u8 c)
      pure (goInt (b.foldl (fun n x => if x == c' then n + 1 else n) (0 : Nat)))) w = _
    simp only [Extern.Bytes.bytesOf, Extern.Bytes.asByte, Sem.run_bind, hl, Result.andThen_ok, Sem.run_pure]
    rw [Lib.foldl_data]
    have e : (ByteArray.mk (ByteArray.empty.data ++ (Lib.bytesOf bs).toArray)).data.toList = Lib.bytesOf bs := by simp
    rw [e]
    have := fold_cnt hc bs ((0 : Nat) : Int) h.byte
    rw [this]
    simp [goInt]
  rw [hrun, hcount]
  rfl

set_option maxHeartbeats 1000000 in
set_option maxRecDepth 100000 in
theorem bcountB_ok (w : World) (g off cap n b2 : Nat) (bs : List Int) (h : Bts w g off bs) (hn : n = bs.length) (h2 : w.cell? ⟨b2, 0, none⟩ = some (.int .u8 255)) :
    Calls Tryz.prog 93 #[.slice (some ⟨g, off, none⟩) n cap, .slice (some ⟨b2, 0, none⟩) 1 1] w fun e w' => e = .returned (.int .i64 (cnt 255 bs)) ∧ w' = w := by
  have hx := ext_countB w g off cap bs 255 (by omega) h
  rw [← hn] at hx
  clear h hn
  go_enter Tryz.func93, Tryz.ntmps93
  go_wp2_with fail
  go_ret
  exact ⟨rfl, rfl⟩

set_option maxHeartbeats 1000000 in
set_option maxRecDepth 100000 in
theorem unclean_ok (w : World) (g off cap : Nat) (bs : List Int) (h : Bts w g off bs) (hn : bs.length = 68) (hc : cnt 255 bs < 68) :
    Calls Tryz.prog 51 #[.slice (some ⟨g, off, none⟩) 68 cap] w fun e w' => e = .returned (.bool false) ∧ w' = w.alloc (.cells #[.int .u8 255] 5 (0, 0)) := by
  have H := Ai.Aside.mk h
  have HN := Ai.Aside.mk hn
  clear h hn
  obtain ⟨c, hcE⟩ : ∃ c, c = cnt 255 bs := ⟨_, rfl⟩
  rw [← hcE] at hc
  have HC := Ai.Aside.mk hcE
  clear hcE
  have hq : ((c : Int) == 68) = false := by rw [beq_eq_false_iff_ne]; omega
  go_enter Tryz.func51, Tryz.ntmps51
  go_wp2_with (go_at_call 93; refine (bcountB_ok _ g off cap 68 _ bs (H.out.below ((Below.refl _ w).alloc (Nat.le_refl _) _)) HN.out.symm (by go_side)).mono ?_; rintro e w1 ⟨rfl, rfl⟩; rw [← HC.out])
  go_ret
  exact ⟨by first | rfl | simp [hq], rfl⟩

/-- Bytes as a string. -/
def strB (bs : List Int) : ByteArray := bs.foldl (fun r n => r.push (UInt8.ofNat n.toNat)) ByteArray.empty

theorem run_str (w : World) (g off cap : Nat) (bs : List Int) (h : Bts w g off bs) : (convert 37 9 (.slice (some ⟨g, off, none⟩) bs.length cap)).run Tryz.prog w = .ok (.string (strB bs)) w := by
  rw [run_convert_bytes_string w 37 9 5 _ _ _ Tryz.underlying37 (by kernel_rfl) (by kernel_rfl)]
  refine run_bytesToString w _ _ _ _ ?_
  have := run_loadCells_list (P := Tryz.prog) w ⟨g, off, none⟩ (bs.map (Value.int .u8)) (fun j v hj => by
    rw [List.getElem?_map] at hj
    cases hx : bs[j]? with
    | none => rw [hx] at hj; cases hj
    | some x => rw [hx] at hj; cases hj; rw [add_addr]; exact (h.2 j x hx).1)
  rwa [List.length_map] at this

theorem wpList_convert {P : Program} {w : World} {ops : Array Oper} {rest : List Oper} {o : Oper} {a : Act} {Q : Exit → Act → World → Prop} (hg : o.guard = none) (x : Operand) (s d : TypeId) (hop : o.op = Op.convert s d x)
    (vx v : Value) (hx : a.eval x = vx) (hrun : (convert s d vx).run P w = .ok v w)
    (hK : wpList P ops Q rest (a.put o.dst v) w) : wpList P ops Q (o :: rest) a w := by
  refine wpList_plain hg fun K hK' => ?_
  unfold Oper.wp
  simp [execOp, hop, hx, hrun, Result.andThen]
  exact hK' _ _ hK

def Pg.zero : Pg := ⟨0, 0, 0, 0, 0, 0, 0, List.replicate 32 0⟩

/-- A block that holds these cells, whole. -/
def RowV (w : World) (g : Nat) (t : TypeId) (vs : List Value) : Prop := w.heap[g]? = some (.cells vs.toArray t (0, 0))

theorem RowV.lt {w : World} {g : Nat} {t : TypeId} {vs : List Value} (h : RowV w g t vs) : g < w.heap.size := (Array.getElem?_eq_some_iff.1 h).1
theorem RowV.cell {w : World} {g : Nat} {t : TypeId} {vs : List Value} (h : RowV w g t vs) {i : Nat} {x : Value} (hx : vs[i]? = some x) : w.cell? ⟨g, i, none⟩ = some x := by
  rw [cell_of_row _ _ _ _ _ _ h]
  simpa using hx
theorem RowV.fr {w : World} {g : Nat} {t : TypeId} {vs : List Value} (h : RowV w g t vs) (i : Nat) : w.frozen? ⟨g, i, none⟩ = false := frozen_of_row _ _ _ _ _ h
theorem RowV.below {w w' : World} {g : Nat} {t : TypeId} {vs : List Value} (h : RowV w g t vs) (hb : Below w.heap.size w w') : RowV w' g t vs := (hb.block g h.lt).trans h
theorem RowV.mod {w w' : World} {g m : Nat} {t : TypeId} {vs : List Value} (h : RowV w g t vs) (hm : Mod w w' m) (hne : g ≠ m) : RowV w' g t vs := (hm.block g h.lt hne).trans h
theorem RowV.set {w : World} {g : Nat} {t : TypeId} {vs : List Value} (h : RowV w g t vs) (i : Nat) (x : Value) : RowV (w.setCell ⟨g, i, none⟩ x) g t (vs.set i x) := by
  unfold RowV
  rw [heap_setCell_same w g i _ t _ h]
  simp
theorem RowV.new (w : World) (vs : List Value) (t : TypeId) : RowV (w.alloc (.cells vs.toArray t)) w.heap.size t vs := heap_alloc_new w _
theorem RowV.range {w : World} {g : Nat} {t : TypeId} {vs : List Value} (h : RowV w g t vs) : w.rangeAt g 0 vs := fun j v hj => by rw [Nat.zero_add]; exact h.cell hj
theorem RowV.there {w : World} {g : Nat} {t : TypeId} {vs : List Value} (h : RowV w g t vs) : w.there g 0 vs.length := fun j hj => by
  rw [Nat.zero_add, h.cell (List.getElem?_eq_getElem hj)]
  exact ⟨rfl, h.fr j⟩
theorem mod_setCells (b : Nat) : ∀ (vs : List Value) (o : Nat) (w : World), Mod w (w.setCells b o vs) b
  | [], _, w => Mod.of_below (Below.refl _ _) b
  | v :: r, o, w => (mod_set w b o v).trans (mod_setCells b r (o + 1) _)
theorem RowV.setAll {g : Nat} {t : TypeId} : ∀ (vs pre suf : List Value) {w : World}, RowV w g t (pre ++ suf) → suf.length = vs.length → RowV (w.setCells g pre.length vs) g t (pre ++ vs)
  | [], pre, suf, w, h, hl => by
    obtain rfl : suf = [] := List.eq_nil_of_length_eq_zero hl
    exact h
  | v :: r, pre, [], w, h, hl => by simp at hl
  | v :: r, pre, u :: suf, w, h, hl => by
    have h1 := h.set pre.length v
    have e : (pre ++ u :: suf).set pre.length v = (pre ++ [v]) ++ suf := by simp
    rw [e] at h1
    have h2 := RowV.setAll r (pre ++ [v]) suf h1 (by simpa using hl)
    simpa [World.setCells] using h2

theorem wpList_build {P : Program} {w : World} {ops : Array Oper} {rest : List Oper} {o : Oper} {a : Act} {Q : Exit → Act → World → Prop} (hg : o.guard = none) (t : TypeId) (parts : Array (Nat × Operand)) (hop : o.op = Op.build t parts)
    (v : Value) (hrun : (Instr.build t (parts.toList.map fun p => (p.1, a.eval p.2)).toArray).run P w = .ok v w)
    (hK : wpList P ops Q rest (a.put o.dst v) w) : wpList P ops Q (o :: rest) a w := by
  have hm : parts.map (fun p => (p.1, a.eval p.2)) = (parts.toList.map fun p => (p.1, a.eval p.2)).toArray := by
    apply Array.ext'
    simp
  rw [← hm] at hrun
  refine wpList_plain hg fun K hK' => ?_
  unfold Oper.wp
  simp [execOp, hop, hrun, Result.andThen]
  exact hK' _ _ hK

theorem wpList_alloc_row {P : Program} {w : World} {ops : Array Oper} {rest : List Oper} {o : Oper} {a : Act} {Q : Exit → Act → World → Prop} (hg : o.guard = none) (t : TypeId) (hop : o.op = Op.alloc t)
    (vs : List Value) (hrun : (Instr.alloc t true (.tuple #[])).run P w = .ok (.pointer (some ⟨w.heap.size, 0, none⟩)) (w.alloc (.cells vs.toArray t)))
    (hK : ∀ w', RowV w' w.heap.size t vs → Below w.heap.size w w' → wpList P ops Q rest (a.put o.dst (.pointer (some ⟨w.heap.size, 0, none⟩))) w') : wpList P ops Q (o :: rest) a w := by
  refine wpList_plain hg fun K hK' => ?_
  unfold Oper.wp
  simp [execOp, hop, hrun, Result.andThen]
  exact hK' _ _ (hK _ (RowV.new w vs t) ((Below.refl w.heap.size w).alloc (Nat.le_refl _) _))

theorem wpList_store_row {P : Program} {ops : Array Oper} {rest : List Oper} {op : Oper} {a : Act} {w : World} {Q : Exit → Act → World → Prop} (hgd : op.guard = none) (ty : TypeId) (x y : Operand) (ho : op.op = .store ty x y)
    (b : Nat) (vs old : List Value) (hx : a.eval x = .pointer (some ⟨b, 0, none⟩)) (hy : a.eval y = .agg vs.toArray)
    (ht : RowV w b ty old) (hl : old.length = vs.length) (hi : (P.info? ty).map (·.size) = some vs.length) (h1 : ∀ v ∈ vs, v.oneCell' = true)
    (h : ∀ w', RowV w' b ty vs → Mod w w' b → wpList P ops Q rest (a.put op.dst undef) w') : wpList P ops Q (op :: rest) a w := by
  have hth := ht.there
  rw [hl] at hth
  refine wpList_store_mid hgd ty x y ho b 0 vs.toArray hx hy (by simpa using hth) (by simpa using hi) (all_oneCell_toArray h1) (h _ ?_ (mod_setCells _ _ _ _))
  have := RowV.setAll (g := b) (t := ty) vs [] old (by simpa using ht) hl
  simpa using this


theorem step_copy_rowV {P : Program} {ops : Array Oper} {o : Oper} {a : Act} {w : World} {K : Act → World → Prop} {Q : Exit → Act → World → Prop} {E : Prop} (hgd : o.guard = none) (d s : Operand) (dT sT : TypeId)
    (ho : o.op = .call { callee := .builtin .copy, args := #[d, s], argTypes := #[dT, sT] }) (elem : TypeId) (hu : P.underlying dT = some (.slice elem)) (hsz : (P.info? elem).map (·.size) = some 1)
    (g off dLen dCap sLen sCap : Nat) (ad : Addr) (hd : a.eval d = .slice (some ⟨g, off, none⟩) dLen dCap) (hs : a.eval s = .slice (some ad) sLen sCap)
    (t : TypeId) (bs cs : List Value) (hg : RowV w g t bs) (hn : cs.length = Nat.min sLen dLen) (hsrc : ∀ j v, cs[j]? = some v → w.cell? (ad.add j) = some v) (hfit : off + cs.length ≤ bs.length) (h1 : ∀ v ∈ cs, v.oneCell' = true)
    (h : ∀ w', Mod w w' g → RowV w' g t (splice bs off cs) → K (a.put o.dst (goInt cs.length)) w') :
    if Region.wanted o (yielded ops a.tmps) = true then Oper.wp P o a w K Q else E := by
  have hw : Region.wanted o (yielded ops a.tmps) = true := by simp [Region.wanted, hgd]
  rw [if_pos hw]
  have hrun := run_copy_row (P := P) w dT sT o.type elem g off dLen dCap ad sLen sCap bs.toArray t cs hu hsz hg hn hsrc (by simpa using hfit) h1
  unfold Oper.wp
  simp [execOp, ho, resolve, invoke, builtin, hd, hs, hrun, Result.andThen]
  refine h _ ⟨rfl, rfl, rfl, by simp [World.setRow], fun k _ hk => setRow_other w g k _ hk⟩ ?_
  unfold RowV
  rw [setRow_heap w g _ _ t _ hg]
  congr 2
  first | done | simp [splice]

theorem by_one (l : List Int) : ∀ v ∈ byI l, v.oneCell' = true := by
  intro v hv
  simp only [byI, List.mem_map] at hv
  obtain ⟨x, _, rfl⟩ := hv
  rfl
theorem Bts.src {w : World} {g off : Nat} {bs : List Int} (h : Bts w g off bs) : ∀ j v, (byI bs)[j]? = some v → w.cell? ((⟨g, off, none⟩ : Addr).add j) = some v := fun j v hj => by
  rw [add_addr]
  rw [byI, List.getElem?_map] at hj
  cases hx : bs[j]? with
  | none => rw [hx] at hj; cases hj
  | some x => rw [hx] at hj; cases hj; exact (h.2 j x hx).1
end Lo
end Go.Proofs.YtjmhkcfdmcjilaaGreat
