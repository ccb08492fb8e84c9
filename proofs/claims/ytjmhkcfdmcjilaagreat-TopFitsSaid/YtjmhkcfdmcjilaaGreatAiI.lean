/-
  append; maps; and all operations upon memory in one word: 'mem_ok'.
-/
import Derived.Test.YtjmhkcfdmcjilaaGreatAiH
namespace Go.Proofs.YtjmhkcfdmcjilaaGreat
namespace Ai
open Go.RowKit
section
variable {P : Program} {B0 : Nat} {W0 : World} {ν : Nu} {h : H} {w : World}

def isIntD : TypeDesc → Option Bool
  | .int _ => some true
  | .slice _ => some false
  | .string => some false
  | _ => none

/-- What is appended, as the machine has it. -/
structure NewsR (P : Program) (ts : Array TypeId) (i : TypeInfo) (z : Value) (vx : Value) (n : Nat) (vs : List Value) (w : World) : Prop where
  len : vs.length = n * i.size
  run : ∃ xT d, ts[1]? = some xT ∧ P.underlying xT = some d ∧
    ((isIntD d = some false ∧ (∀ w, (Builtin.lenOf vx).run P w = .ok n w) ∧ (Builtin.firstCells i.size n vx).run P w = .ok vs.toArray w ∧ (Builtin.firstCells i.size n vx).run P w.drew = .ok vs.toArray w.drew) ∨
     (isIntD d = some true ∧ (∃ k, vx = .int k (n : Int)) ∧ vs.toArray = Builtin.zeroCells z.cells n))

theorem aNews_ok (g : Ga B0 W0 ν h w) {ts : Array TypeId} {xT : Option TypeId} (hts : ts[1]? = xT) {i : TypeInfo} {zs new : List S} {x : V} {z vx : Value} {n : Nat} (hzc : cvL ν zs = some z.cells.toList)
    (hlen : new.length = n * i.size) (e : aNews P h xT i.size zs x = some (n, new)) (hx : cvV ν x = some vx) :
    ∃ vs, cvL ν new = some vs ∧ NewsR P ts i z vx n vs w := by
  unfold aNews aZeros at e
  cases xT with
  | none => simp at e
  | some t =>
    cases hu : P.underlying t with
    | none => simp [hu] at e
    | some d =>
      have other : isIntD d = some false → (match vLen x with
          | some n => (aFirst h i.size n x).map fun l => (n, l)
          | none => none) = some (n, new) → ∃ vs, cvL ν new = some vs ∧ NewsR P ts i z vx n vs w := fun hb e => by
        cases hl : vLen x with
        | none => simp [hl] at e
        | some m =>
          simp only [hl] at e
          cases hf : aFirst h i.size m x with
          | none => simp [hf] at e
          | some l =>
            simp only [hf, Option.map_some, Option.some.injEq, Prod.mk.injEq] at e
            obtain ⟨rfl, rfl⟩ := e
            obtain ⟨vs, k1, k2⟩ := aFirst_ok (P := P) g hf hx
            obtain ⟨vs', k1', k2'⟩ := aFirst_ok (P := P) g.drew hf hx
            rw [k1] at k1'
            obtain rfl := Option.some.inj k1'
            exact ⟨vs, k1, by rw [cvL_length k1, hlen], t, d, hts, hu, .inl ⟨hb, fun w => vLen_ok hl hx w, k2, k2'⟩⟩
      cases d with
      | int k =>
        simp only [hu] at e
        cases hn : vNat x with
        | none => simp [hn] at e
        | some m =>
          simp only [hn, Option.map_some, Option.some.injEq, Prod.mk.injEq] at e
          obtain ⟨rfl, rfl⟩ := e
          have k1 := cvL_replicate hzc m
          refine ⟨_, k1, by rw [cvL_length k1, hlen], t, .int k, hts, hu, .inr ⟨rfl, ?_, by rw [zeroCells_eq]⟩⟩
          exact vNat_of hn hx
      | slice _ => simp only [hu] at e; exact other rfl e
      | string => simp only [hu] at e; exact other rfl e
      | _ => simp [hu] at e

set_option maxHeartbeats 1000000 in
theorem append_room {ts : Array TypeId} {sT elem ty : TypeId} {i : TypeInfo} {z vx : Value} {n sLen sCap : Nat} {base : Option Addr} {vs : List Value} (h0 : ts[0]? = some sT) (hu : P.underlying sT = some (.slice elem)) (hi : P.info? elem = some i) (hz : i.zero = some z)
    (hN : NewsR P ts i z vx n vs w) (hb : n * (i.bytes + 1) ≤ 1000000) (hroom : sLen + n ≤ sCap) {w' : World}
    (hst : match base with | some a => (storeCells (a.add (sLen * i.size)) vs).run P w = .ok () w' | none => w' = w) :
    (Builtin.append_ ts ty #[.slice base sLen sCap, vx]).run P w = .ok (.slice base (sLen + n) sCap) w' := by
  obtain ⟨xT, d, hx, hd, h2⟩ := hN.run
  have hnn : n ≤ 1000000 := Nat.le_trans (Nat.le_mul_of_pos_right n (by omega)) hb
  have hnb : n * i.bytes ≤ 1000000 := Nat.le_trans (Nat.mul_le_mul_left n (by omega)) hb
  rcases h2 with ⟨hi0, k1, k2, k3⟩ | ⟨hi1, ⟨k, rfl⟩, k2⟩
  · cases d <;> first
      | (simp [isIntD] at hi0; done)
      | (cases base with
         | none => subst hst; simp [Builtin.append_, h0, hx, run_underlying hu, run_underlying hd, sizeOf, typeInfo, hi, k1, k2, hroom]
         | some a => simp at hst; simp [Builtin.append_, h0, hx, run_underlying hu, run_underlying hd, sizeOf, typeInfo, hi, k1, k2, hroom, hst])
  · cases d <;> first
      | (simp [isIntD] at hi1; done)
      | skip
    have hwrap : IntKind.i64.wrap (n : Int) = n := by rw [IntKind.wrap_i64]; omega
    have hlt : ¬ ((n : Int) < 0) := by omega
    have hbig : ¬ ((281474976710656 : Int) < (n : Int) * (i.bytes : Int)) := by
      have : ((n * i.bytes : Nat) : Int) ≤ 1000000 := Int.ofNat_le.2 hnb
      rw [Int.natCast_mul] at this
      omega
    by_cases hz0 : n * i.size = 0
    · have hvs : vs = [] := List.length_eq_zero_iff.1 (by rw [hN.len, hz0])
      subst hvs
      cases base with
      | none => subst hst; simp [Builtin.append_, h0, hx, run_underlying hu, run_underlying hd, sizeOf, typeInfo, hi, asInt, asIntOf, hwrap, hlt, hbig, hz0, hroom]
      | some a => simp at hst; simp [Builtin.append_, h0, hx, run_underlying hu, run_underlying hd, sizeOf, typeInfo, hi, asInt, asIntOf, hwrap, hlt, hbig, hz0, hroom, hst]
    · cases base with
      | none => subst hst; simp [Builtin.append_, h0, hx, run_underlying hu, run_underlying hd, sizeOf, typeInfo, hi, asInt, asIntOf, hwrap, hlt, hbig, hroom, zeroValue, hz]
      | some a => simp at hst; simp [Builtin.append_, h0, hx, run_underlying hu, run_underlying hd, sizeOf, typeInfo, hi, asInt, asIntOf, hwrap, hlt, hbig, hz0, hroom, zeroValue, hz, ← k2, hst]

set_option maxHeartbeats 1000000 in
theorem append_grow {ts : Array TypeId} {sT elem ty : TypeId} {i : TypeInfo} {z vx : Value} {n sLen sCap : Nat} {base : Option Addr} {vs olds : List Value} (h0 : ts[0]? = some sT) (hu : P.underlying sT = some (.slice elem)) (hi : P.info? elem = some i) (hz : i.zero = some z)
    (hN : NewsR P ts i z vx n vs w) (hb : (sLen + n) * (i.bytes + 1) ≤ 1000000) (hroom : sCap < sLen + n) (hold : (Builtin.firstCells i.size sLen (.slice base sLen sCap)).run P w.drew = .ok olds.toArray w.drew) :
    (Builtin.append_ ts ty #[.slice base sLen sCap, vx]).run P w =
      .ok (.slice (some ⟨w.heap.size, 0, none⟩) (sLen + n) (grownCap w (sLen + n) sCap elem))
        (w.drew.alloc (.cells (olds.toArray ++ vs.toArray ++ Builtin.zeroCells z.cells (grownCap w (sLen + n) sCap elem - (sLen + n))) elem)) := by
  obtain ⟨xT, d, hx, hd, h2⟩ := hN.run
  have hnn : sLen + n ≤ 1000000 := Nat.le_trans (Nat.le_mul_of_pos_right _ (by omega)) hb
  have hbb : (sLen + n) * i.bytes ≤ 1000000 := Nat.le_trans (Nat.mul_le_mul_left _ (by omega)) hb
  have hnb : n * i.bytes ≤ 1000000 := Nat.le_trans (Nat.mul_le_mul_right _ (by omega)) hbb
  have hno : ¬ (sLen + n ≤ sCap) := by omega
  have hfit := growslice_fits (need := sLen + n) (old := sCap) (bytes := i.bytes) hroom (by omega)
  have hfit' : ¬ (281474976710656 < Builtin.nextslicecap (sLen + n) sCap * i.bytes) := by omega
  have h63 : ¬ ((9223372036854775807 : Int) < (sLen : Int) + (n : Int)) := by omega
  have hmax : (IntKind.i64.max : Int) = 9223372036854775807 := rfl
  rcases h2 with ⟨hi0, k1, k2, k3⟩ | ⟨hi1, ⟨k, rfl⟩, k2⟩
  · cases d <;> first
      | (simp [isIntD] at hi0; done)
      | (simp [Builtin.append_, h0, hx, run_underlying hu, run_underlying hd, sizeOf, typeInfo, hi, k1, k3, hno, hmax, h63, hfit', Question.forced, hold, zeroValue, hz, newRow, grownCap, -List.append_toArray])
  · cases d <;> first
      | (simp [isIntD] at hi1; done)
      | skip
    have hwrap : IntKind.i64.wrap (n : Int) = n := by rw [IntKind.wrap_i64]; omega
    have hlt : ¬ ((n : Int) < 0) := by omega
    have hbig : ¬ ((281474976710656 : Int) < (n : Int) * (i.bytes : Int)) := by
      have : ((n * i.bytes : Nat) : Int) ≤ 1000000 := Int.ofNat_le.2 hnb
      rw [Int.natCast_mul] at this
      omega
    by_cases hz0 : n * i.size = 0
    · have hvs : vs = [] := List.length_eq_zero_iff.1 (by rw [hN.len, hz0])
      subst hvs
      simp [Builtin.append_, h0, hx, run_underlying hu, run_underlying hd, sizeOf, typeInfo, hi, asInt, asIntOf, hwrap, hlt, hbig, hz0, hno, hmax, h63, hfit', Question.forced, hold, zeroValue, hz, newRow, grownCap, -List.append_toArray]
    · simp [Builtin.append_, h0, hx, run_underlying hu, run_underlying hd, sizeOf, typeInfo, hi, asInt, asIntOf, hwrap, hlt, hbig, hz0, hno, hmax, h63, hfit', Question.forced, hold, zeroValue, hz, newRow, grownCap, ← k2, -List.append_toArray]

theorem firstRow {b off n z len cap : Nat} {cur : Array Value} {el : TypeId} (hb : w.heap[b]? = some (.cells cur el (0, 0))) (hk : off + n * z ≤ cur.size) :
    (Builtin.firstCells z n (.slice (some ⟨b, off, none⟩) len cap)).run P w = .ok ((cur.toList.drop off).take (n * z)).toArray w := by
  refine run_firstCells_some w z n ⟨b, off, none⟩ len cap _ (by simp; omega) fun j v hj => ?_
  rw [add_addr, cell_at hb]
  rw [List.getElem?_take] at hj
  split at hj
  · rw [List.getElem?_drop] at hj; simpa using hj
  · cases hj

theorem RowR_write_to {k : Nat} {t : Tr S} {cur : Array Value} (r : RowR ν k t cur) {off : Nat} (hoff : off ≤ k) {l : List S} {vs : List Value} (hl : cvL ν l = some vs) (ht : off + l.length ≤ top) (hc : off ≤ cur.size) (rest : List Value) :
    RowR ν (off + l.length) (t.write off l) (cur.toList.take off ++ vs ++ rest).toArray := by
  have hlen := cvL_length hl
  refine ⟨ht, fun i hi => ?_⟩
  rw [Tr.get_write l t off ht]
  have hto : (cur.toList.take off).length = off := by simp; omega
  by_cases h1 : off ≤ i
  · rw [if_pos h1]
    have hlt : i - off < l.length := by omega
    have h2 := cvL_get hl (i - off)
    rw [List.getElem?_eq_getElem hlt, List.getElem?_eq_getElem (by omega)] at h2
    simp only [Option.bind_some] at h2
    refine .inr ⟨vs[i - off]'(by omega), ?_, by simp only [List.getElem?_eq_getElem hlt]; exact h2.symm⟩
    rw [List.getElem?_toArray, List.append_assoc, List.getElem?_append_right (by omega), hto, List.getElem?_append_left (by omega), List.getElem?_eq_getElem]
  · rw [if_neg h1]
    rcases r.2 i (by omega) with h2 | ⟨v, h2, h3⟩
    · exact .inl h2
    · refine .inr ⟨v, ?_, h3⟩
      rw [List.getElem?_toArray, List.append_assoc, List.getElem?_append_left (by omega), List.getElem?_take_of_lt (by omega), Array.getElem?_toList]
      exact h2

/-- A row that begins as cells of another one, moved. -/
theorem RowR_moved {k : Nat} {t : Tr S} {cur : Array Value} (r : RowR ν k t cur) {off m : Nat} (hk : off + m ≤ k) (hc : off + m ≤ cur.size) {l : List S} {vs : List Value} (hl : cvL ν l = some vs) (ht : m + l.length ≤ top) {t' : Tr S}
    (hget : ∀ i, i < m + l.length → t'.get i = if i < m then t.get (off + i) else (match l[i - m]? with | some x => x | none => .any)) (rest : List Value) :
    RowR ν (m + l.length) t' ((cur.toList.drop off).take m ++ vs ++ rest).toArray := by
  have hlen := cvL_length hl
  refine ⟨ht, fun i hi => ?_⟩
  rw [hget i hi]
  have hto : ((cur.toList.drop off).take m).length = m := by simp; omega
  by_cases h1 : i < m
  · rw [if_pos h1]
    rcases r.2 (off + i) (by omega) with h2 | ⟨v, h2, h3⟩
    · exact .inl h2
    · refine .inr ⟨v, ?_, h3⟩
      rw [List.getElem?_toArray, List.append_assoc, List.getElem?_append_left (by omega), List.getElem?_take_of_lt h1, List.getElem?_drop, Array.getElem?_toList]
      exact h2
  · rw [if_neg h1]
    have hlt : i - m < l.length := by omega
    have h2 := cvL_get hl (i - m)
    rw [List.getElem?_eq_getElem hlt, List.getElem?_eq_getElem (by omega)] at h2
    simp only [Option.bind_some] at h2
    refine .inr ⟨vs[i - m]'(by omega), ?_, by simp only [List.getElem?_eq_getElem hlt]; exact h2.symm⟩
    rw [List.getElem?_toArray, List.append_assoc, List.getElem?_append_right (by omega), hto, List.getElem?_append_left (by omega), List.getElem?_eq_getElem]

/-- The facts about an element type that append needs. -/
structure ElemR (P : Program) (ν : Nu) (elem : TypeId) (i : TypeInfo) (z : Value) (zs : List S) : Prop where
  info : P.info? elem = some i
  zero : i.zero = some z
  cv : ∀ ν, cvL ν zs = some z.cells.toList
  len : zs.length = i.size
  size : z.cells.size = i.size
  pos : 0 < i.size

theorem grown_rest {i : TypeInfo} {z : Value} {zs : List S} {elem : TypeId} (E : ElemR P ν elem i z zs) (m : Nat) : (Builtin.zeroCells z.cells m).toList.length = m * i.size := by
  rw [Array.length_toList, size_zeroCells, E.size]

theorem aLay_ok (g : Ga B0 W0 ν h w) {ts : Array TypeId} {sT elem ty : TypeId} {i : TypeInfo} {z vx s : Value} {zs new : List S} {n : Nat} {vs : List Value} {vS v : V} {h' : H} (h0 : ts[0]? = some sT) (hu : P.underlying sT = some (.slice elem))
    (E : ElemR P ν elem i z zs) (hN : NewsR P ts i z vx n vs w) (hcv : cvL ν new = some vs) (hs : cvV ν vS = some s) (e : aLay h elem i.size i.bytes vS n new = some (v, h')) :
    ∃ u ν' w', (Builtin.append_ ts ty #[s, vx]).run P w = .ok u w' ∧ ν.le ν' ∧ Ga B0 W0 ν' h' w' ∧ cvV ν' v = some u := by
  have hnl : new.length = n * i.size := by rw [← cvL_length hcv]; exact hN.len
  unfold aLay at e
  split at e
  · obtain rfl := nsl_of hs
    by_cases hn : n = 0
    · simp only [hn, beq_dec, decide_true, cond_true, Option.some.injEq, Prod.mk.injEq] at e
      obtain ⟨rfl, rfl⟩ := e
      subst hn
      exact ⟨_, ν, w, append_room h0 hu E.info E.zero hN (by simp) (Nat.le_refl _) rfl, Nu.le_refl ν, g, rfl⟩
    · simp only [hn, beq_dec, decide_false, cond_false] at e
      cases hc : (Nat.blt (n * i.size) top && Nat.ble (n * (i.bytes + 1)) 1000000) with
      | false => simp [hc] at e
      | true =>
        simp only [hc, cond_true] at e
        simp only [Bool.and_eq_true, Nat.blt, ble_dec, decide_eq_true_eq] at hc
        split at e
        · rename_i q m h1 hh
          simp only [Option.some.injEq, Prod.mk.injEq] at e
          obtain ⟨rfl, rfl⟩ := e
          have hge := grownCap_ge w n 0 elem
          have hrun := append_grow (P := P) (w := w) (sLen := 0) (sCap := 0) (base := none) (olds := []) (ty := ty) h0 hu E.info E.zero hN (by simpa using hc.2) (by omega) (by simp [Builtin.firstCells])
          simp only [Nat.zero_add] at hrun
          obtain ⟨ν', k1, k2, k3⟩ := newRow_ok g.drew hcv hnl (by omega) (get_fresh (by omega) .ni) true (grownCap w n 0 elem - n) (Builtin.zeroCells z.cells (grownCap w n 0 elem - n)).toList (grown_rest E _) (by simp) hh
          have heq : ((vs ++ (Builtin.zeroCells z.cells (grownCap w n 0 elem - n)).toList).toArray) = (([] : List Value).toArray ++ vs.toArray ++ Builtin.zeroCells z.cells (grownCap w n 0 elem - n)) := by
            apply Array.ext'; simp
          rw [heq] at k3
          refine ⟨_, ν', _, hrun, k1, k3, ?_⟩
          have := sl_mk 0 n n true k2
          rw [this]
          simp only [cond_true]
          congr 2
          omega
        · cases e
  · rename_i b off len c o
    obtain ⟨y, hy, rfl⟩ := sl_of hs
    split at e
    · rename_i k r el z' o' hn
      obtain ⟨b1, sl, cur, h1, hB, hlt, h4, h5, h6, h7⟩ := g.row hn
      rw [hy] at h1
      obtain rfl : y = (b1, sl) := Option.some.inj h1
      simp only at hs ⊢
      cases hc : (Nat.beq i.size z' && Nat.blt (off + (len + n) * i.size) top && Nat.ble ((len + n) * (i.bytes + 1)) 1000000) with
      | false => simp [hc] at e
      | true =>
        simp only [hc, cond_true] at e
        simp only [Bool.and_eq_true, Nat.blt, ble_dec, beq_dec, decide_eq_true_eq] at hc
        obtain ⟨⟨rfl, c2⟩, c3⟩ := hc
        have hmul : (len + n) * i.size = len * i.size + n * i.size := Nat.add_mul _ _ _
        have hnb : n * (i.bytes + 1) ≤ 1000000 := Nat.le_trans (Nat.mul_le_mul_right _ (by omega)) c3
        by_cases hroom : len + n ≤ c
        · simp only [ble_dec, hroom, decide_true, cond_true] at e
          by_cases hk : off + (len + n) * i.size ≤ k
          · simp only [hk, decide_true, cond_true, Option.some.injEq, Prod.mk.injEq] at e
            obtain ⟨rfl, rfl⟩ := e
            obtain ⟨w', j1, j2⟩ := setCells_ok (P := P) g hn hy hcv (off := off + len * i.size) (by omega)
            have hroom' : len + n ≤ cond o (c + sl) c := by cases o <;> simp <;> omega
            refine ⟨_, ν, w', append_room h0 hu E.info E.zero hN hnb hroom' (by simp only [add_addr]; exact j1), Nu.le_refl ν, j2, sl_mk _ _ _ _ hy⟩
          · simp [hk] at e
        · simp only [ble_dec, hroom, decide_false, cond_false] at e
          by_cases hk : off + len * i.size ≤ k
          · simp only [hk, decide_true, cond_true] at e
            have hfirst := fun cap => firstRow (P := P) (w := w.drew) (b := b1) (off := off) (n := len) (z := i.size) (len := len) (cap := cap) (cur := cur) (el := el) h4 (by omega)
            -- elsewhere
            have grow : ∀ (cap : Nat), cap < len + n → ∀ {t' : Tr S} {hd : H} {m : Nat}, Ga B0 W0 ν hd w.drew → hd.new (.row ((len + n) * i.size) t' elem i.size true) = some (m, h') → v = .w (.s (.sl m 0 (len + n) (len + n) true)) →
                (∀ j, j < len * i.size + new.length → t'.get j = if j < len * i.size then r.get (off + j) else (match new[j - len * i.size]? with | some x => x | none => .any)) →
                ∃ u ν' w', (Builtin.append_ ts ty #[.slice (some ⟨b1, off, none⟩) len cap, vx]).run P w = .ok u w' ∧ ν.le ν' ∧ Ga B0 W0 ν' h' w' ∧ cvV ν' v = some u := fun cap hcap t' hd m gd hh hv hget => by
              have hge := grownCap_ge w (len + n) cap elem
              have hrun := append_grow (P := P) (w := w) (ty := ty) h0 hu E.info E.zero hN c3 hcap (hfirst cap)
              have hrow := RowR_moved h5 hk (by omega) hcv (by omega) hget (Builtin.zeroCells z.cells (grownCap w (len + n) cap elem - (len + n))).toList
              have hkk : len * i.size + new.length = (len + n) * i.size := by omega
              rw [hkk] at hrow
              obtain ⟨k1, k2⟩ := gd.new hh (by simp) (grownCap w (len + n) cap elem - (len + n)) (.cells _ elem) ⟨_, rfl, hrow, by
                have := grown_rest E (grownCap w (len + n) cap elem - (len + n))
                have hvl := hN.len
                simp at this ⊢
                rw [this]; omega, by simp⟩
              refine ⟨_, _, _, hrun, k1, ?_, ?_⟩
              · have heq : (((cur.toList.drop off).take (len * i.size)).toArray ++ vs.toArray ++ Builtin.zeroCells z.cells (grownCap w (len + n) cap elem - (len + n))) =
                    (((cur.toList.drop off).take (len * i.size)) ++ vs ++ (Builtin.zeroCells z.cells (grownCap w (len + n) cap elem - (len + n))).toList).toArray := by
                  apply Array.ext'; simp
                rw [heq]; exact k2
              · rw [hv, sl_mk (y := (w.drew.heap.size, grownCap w (len + n) cap elem - (len + n))) 0 (len + n) (len + n) true (by simp [Nu.upd])]
                simp only [cond_true]
                have : len + n + (grownCap w (len + n) cap elem - (len + n)) = grownCap w (len + n) cap elem := by omega
                rw [this]
                rfl
            cases o with
            | false =>
              simp only [cond_false] at e ⊢
              split at e
              · rename_i q m h1 hh
                simp only [Option.some.injEq, Prod.mk.injEq] at e
                obtain ⟨rfl, rfl⟩ := e
                refine grow c (by omega) g.drew hh rfl fun j hj => ?_
                rw [Tr.get_write _ _ 0 (by simp [Tr.length_cells]; omega), if_pos (Nat.zero_le j)]
                simp only [Nat.sub_zero]
                by_cases hjm : j < len * i.size
                · rw [if_pos hjm, List.getElem?_append_left (by rw [Tr.length_cells]; exact hjm), Tr.get_cells, if_pos hjm]
                · rw [if_neg hjm, List.getElem?_append_right (by rw [Tr.length_cells]; omega), Tr.length_cells]
                  have hlt : j - len * i.size < new.length := by omega
                  rw [List.getElem?_eq_getElem hlt]
              · cases e
            | true =>
              simp only [cond_true] at e ⊢
              cases hq : (Nat.beq off 0 && Nat.beq k (c * i.size) && Nat.beq el elem && o') with
              | false => simp only [hq, cond_false, reduceCtorEq] at e
              | true =>
                simp only [hq, cond_true] at e
                simp only [Bool.and_eq_true, beq_dec, decide_eq_true_eq] at hq
                obtain ⟨⟨⟨rfl, hkc⟩, rfl⟩, rfl⟩ := hq
                split at e
                · rename_i q m h1 hh
                  simp only [Option.some.injEq, Prod.mk.injEq] at e
                  obtain ⟨rfl, rfl⟩ := e
                  by_cases hin : len + n ≤ c + sl
                  · -- in its place
                    have hsz : cur.size = (c + sl) * i.size := by rw [h6, hkc, Nat.add_mul]
                    have hle : (len + n) * i.size ≤ (c + sl) * i.size := Nat.mul_le_mul_right _ hin
                    have hvl := hN.len
                    have hst := run_storeCells_at P b1 (len * i.size) el vs 0 cur w h4 (by omega) (cvL_one hcv)
                    simp only [Nat.add_zero] at hst
                    have hrow := RowR_write_to (off := len * i.size) h5 (by omega) hcv (by omega) (by omega) (cur.toList.drop (len * i.size + vs.length))
                    have hkk : len * i.size + new.length = (len + n) * i.size := by omega
                    rw [hkk] at hrow
                    have hsub : (c + sl - (len + n)) * i.size = (c + sl) * i.size - (len + n) * i.size := Nat.sub_mul _ _ _
                    obtain ⟨k1, k2⟩ := g.rename hn hy h4 hh hrow (c + sl - (len + n)) (by simp; omega)
                    refine ⟨_, _, _, append_room h0 hu E.info E.zero hN hnb hin (by simp only [add_addr, Nat.zero_add]; exact hst), k1, k2, ?_⟩
                    rw [sl_mk (y := (b1, c + sl - (len + n))) 0 (len + n) (len + n) true (by simp [Nu.upd])]
                    simp only [cond_true]
                    congr 2
                    omega
                  · have hnn : h.get b ≠ .none := by rw [hn]; simp
                    refine grow (c + sl) (by omega) (g.drew.dead hnn) hh rfl fun j hj => ?_
                    rw [Tr.get_write _ _ _ (by omega)]
                    by_cases hjm : j < len * i.size
                    · rw [if_pos hjm, if_neg (by omega), Nat.zero_add]
                    · rw [if_neg hjm, if_pos (by omega)]
                      have hlt : j - len * i.size < new.length := by omega
                      rw [List.getElem?_eq_getElem hlt]
                · cases e
          · simp [hk] at e
    · cases e
  · cases e

end
end Ai
end Go.Proofs.YtjmhkcfdmcjilaaGreat
