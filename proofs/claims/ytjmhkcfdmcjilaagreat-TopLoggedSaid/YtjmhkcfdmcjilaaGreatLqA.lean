/-
  Walk of the codec: delta.Runs of what was told by a snapshot.
-/
import Derived.Test.YtjmhkcfdmcjilaaGreatLpY
import Derived.Test.YtjmhkcfdmcjilaaGreatLpH
import Derived.Test.YtjmhkcfdmcjilaaGreatLpW
/- Walks of the codec: bytes.Equal of the same, delta.Changes of what was recorded. -/
set_option linter.unusedVariables false
set_option linter.unusedSimpArgs false
namespace Go.Proofs.YtjmhkcfdmcjilaaGreat
namespace Lo
open Go.RowKit Ai Fi

set_option maxHeartbeats 4000000 in
set_option maxRecDepth 100000 in
theorem bequal_ok (w : World) (g off cap g2 off2 cap2 n : Nat) (bs : List Int) (h1 : Bts w g off bs) (h2 : Bts w g2 off2 bs) (hn : bs.length = n) :
    Calls Tryz.prog 61 #[.slice (some ⟨g, off, none⟩) n cap, .slice (some ⟨g2, off2, none⟩) n cap2] w fun e w' => e = .returned (.bool true) ∧ w' = w := by
  have e1 := Ai.Aside.mk (run_str w g off cap bs h1)
  have e2 := Ai.Aside.mk (run_str w g2 off2 cap2 bs h2)
  rw [hn] at e1 e2
  clear h1 h2 hn
  generalize strB bs = s at e1 e2
  have hq : (s == s) = true := (Go.MapKept.bytes_beq s s).2 rfl
  go_enter Tryz.func61, Tryz.ntmps61
  go_wp2_with (first | ((with_reducible refine wpList_convert rfl (.tmp 5) 37 9 rfl _ _ ?_ e1.out ?_); (rfl)) | ((with_reducible refine wpList_convert rfl (.tmp 7) 37 9 rfl _ _ ?_ e2.out ?_); (rfl)))
  go_ret
  exact ⟨by first | rfl | simp, rfl⟩

theorem info42 : (Tryz.prog.info? 42).map (fun i => (i.zero, i.size, i.bytes)) = some (some (.agg #[(.int .i64 0), (.int .i64 0), (.int .i64 0)]), 3, 24) := by kernel_rfl

theorem own3e {w : World} {base : Nat} {e : TypeId} {v : Value} {xs : List Op3} (h : w.ownsRow base e 3 v xs.length (runV xs)) (hb : ∀ x ∈ xs, inI x.l ∧ inI x.n ∧ inI x.p) : ∃ A cap, v = .slice A xs.length cap ∧ Acts3 w A xs ∧ ∀ b off, A = some ⟨b, off, none⟩ → base ≤ b := by
  have hlt := h.lt
  rcases h.2 with ⟨rfl, h0⟩ | ⟨g, cap, cur, rfl, _⟩
  · have : xs = [] := List.eq_nil_of_length_eq_zero h0
    subst this
    exact ⟨none, 0, rfl, ⟨(fun x hx => by cases hx), (fun h => absurd h (Nat.lt_irrefl 0))⟩, fun b off e => by cases e⟩
  · refine ⟨_, cap, rfl, ⟨hb, fun _ => ⟨g, 0, rfl, (h.lt g rfl).2, fun i x hx => ?_⟩⟩, fun b off e => by cases e; exact (hlt g rfl).1⟩
    have hlt := (List.getElem?_eq_some_iff.1 hx).1
    obtain ⟨k1, k2, k3⟩ := runV_get xs i x hx
    have hl := runV_length xs
    refine ⟨?_, ?_, ?_⟩
    · rw [Nat.zero_add, h.cellAt (i * 3) (by omega), k1]
    · rw [Nat.zero_add, h.cellAt (i * 3 + 1) (by omega), k2]
    · rw [Nat.zero_add, h.cellAt (i * 3 + 2) (by omega), k3]

theorem bytesV_natI (l : List Nat) : bytesV l = byI (natI l) := by
  simp [bytesV, byI, natI]

theorem natI_byte {l : List Nat} (h : ∀ x ∈ l, x ≤ 255) : ∀ x ∈ natI l, 0 ≤ x ∧ x ≤ 255 := by
  intro x hx
  simp only [natI, List.mem_map] at hx
  obtain ⟨y, hy, rfl⟩ := hx
  have := h y hy
  omega

theorem enc_le : ∀ (v x : Nat), x ∈ enc v → x ≤ 255 := by
  intro v
  induction v using Nat.strongRecOn with
  | _ v ih =>
    intro x hx
    by_cases h : v < 128
    · rw [enc_small h] at hx
      simp at hx; omega
    · rw [enc_great h, List.mem_cons] at hx
      rcases hx with rfl | hx
      · omega
      · exact ih (v / 128) (by omega) x hx

theorem recB_le : ∀ (r : List Op3) (lba phys : Int) (x : Nat), x ∈ recB lba phys r → x ≤ 255
  | [], _, _, x, hx => by cases hx
  | y :: r, lba, phys, x, hx => by
    rw [recB, List.mem_append, List.mem_append] at hx
    rcases hx with hx | hx | hx
    · exact enc_le _ _ hx
    · exact enc_le _ _ hx
    · split at hx
      · rw [List.mem_append] at hx
        rcases hx with hx | hx
        · exact enc_le _ _ hx
        · exact recB_le r _ _ x hx
      · rw [List.mem_append] at hx
        rcases hx with hx | hx
        · exact enc_le _ _ hx
        · exact recB_le r _ _ x hx

theorem own_bts {w : World} {base m : Nat} {ops : List Op3} {v : Value} (h : w.ownsRow base 5 1 v (enc m ++ recB 0 0 ops).length (bytesV (enc m ++ recB 0 0 ops))) :
    ∀ g c, v = .slice (some ⟨g, 0, none⟩) (enc m ++ recB 0 0 ops).length c → Bts w g 0 (natI (enc m ++ recB 0 0 ops)) := by
  intro g c hv
  subst hv
  refine ⟨(h.lt g rfl).2, fun i x hx => ⟨?_, natI_byte (fun y hy => ?_) x (List.mem_of_getElem? hx)⟩⟩
  · have hi := (List.getElem?_eq_some_iff.1 hx).1
    rw [natI, List.length_map] at hi
    rw [Nat.zero_add, h.cellAt i (by omega), bytesV_natI, byI, List.getElem?_map, hx]
    rfl
  · rw [List.mem_append] at hy
    rcases hy with hy | hy
    · exact enc_le _ _ hy
    · exact recB_le _ _ _ _ hy


theorem rec_parts {lba phys : Int} {x : Op3} {r : List Op3} (hr : rightOp x = true) : ∃ d phys', recB lba phys (x :: r) = enc (zig (x.l - lba)) ++ (enc x.n.toNat ++ (enc (zig d) ++ recB (x.l + x.n) phys' r)) ∧
    ((x.p = -1 ∧ d = 0 ∧ phys' = phys) ∨ (0 ≤ x.p ∧ 0 < d ∧ phys + d - 1 = x.p ∧ phys' = x.p + x.n) ∨ (0 ≤ x.p ∧ d < 0 ∧ phys + d = x.p ∧ phys' = x.p + x.n)) := by
  simp only [rightOp, decide_eq_true_eq] at hr
  by_cases hp : x.p < 0
  · refine ⟨0, phys, ?_, .inl ⟨by omega, rfl, rfl⟩⟩
    rw [recB, if_pos hp]
    rfl
  · by_cases hd : 0 ≤ x.p - phys
    · refine ⟨x.p - phys + 1, x.p + x.n, ?_, .inr (.inl ⟨by omega, by omega, by omega, rfl⟩)⟩
      rw [recB, if_neg hp, if_pos hd]
    · refine ⟨x.p - phys, x.p + x.n, ?_, .inr (.inr ⟨by omega, by omega, by omega, rfl⟩)⟩
      rw [recB, if_neg hp, if_neg hd]

def ChgPost (w : World) (ops : List Op3) (e : Ending) (w' : World) : Prop := ∃ v, e = .returned (.tuple #[v, .int .i64 0]) ∧ w'.ownsRow w.heap.size 42 3 v ops.length (runV ops) ∧ Below w.heap.size w w'

theorem row3 {w : World} {q : Nat} {a b c : Int} (h : RowV w q 42 [.int .i64 a, .int .i64 b, .int .i64 c]) : w.cell? ⟨q, 0, none⟩ = some (.int .i64 a) ∧ w.cell? ⟨q, 1, none⟩ = some (.int .i64 b) ∧ w.cell? ⟨q, 2, none⟩ = some (.int .i64 c) ∧ w.frozen? ⟨q, 2, none⟩ = false :=
  ⟨h.cell rfl, h.cell rfl, h.cell rfl, h.fr 2⟩

theorem Rdr.bad {w : World} {r g : Nat} {l : List Nat} (h : Rdr w r g l) : w.cell? ⟨r, 1, none⟩ = some (.bool false) := by
  obtain ⟨A, cap, h1, -⟩ := h.row
  exact h1.cell (i := 1) rfl
theorem Rdr.lt {w : World} {r g : Nat} {l : List Nat} (h : Rdr w r g l) : r < w.heap.size := by
  obtain ⟨A, cap, h1, -⟩ := h.row
  exact h1.lt
theorem Rdr.mod {w w' : World} {r g q : Nat} {l : List Nat} (h : Rdr w r g l) (hm : Mod w w' q) (h1 : r ≠ q) (h2 : g ≠ q) : Rdr w' r g l := by
  obtain ⟨A, cap, k1, k2, k3⟩ := h.row
  exact ⟨A, cap, k1.mod hm h1, k2, fun hn => by obtain ⟨off, e, hB⟩ := k3 hn; exact ⟨off, e, hB.mod hm h2⟩⟩
theorem Rdr.grown {w w' : World} {r g : Nat} {l : List Nat} {row : Option Nat} (h : Rdr w r g l) (hg : w.grownBy w' row) (h1 : row ≠ some r) (h2 : row ≠ some g) : Rdr w' r g l := by
  obtain ⟨A, cap, k1, k2, k3⟩ := h.row
  exact ⟨A, cap, (hg.block r k1.lt (Ne.symm h1)).trans k1, k2, fun hn => by
    obtain ⟨off, e, hB⟩ := k3 hn
    exact ⟨off, e, Nat.lt_of_lt_of_le hB.1 hg.size, fun i x hx => ⟨hg.cell (hB.2 i x hx).1 (Ne.symm h2), (hB.2 i x hx).2⟩⟩⟩

set_option maxHeartbeats 4000000 in
set_option maxRecDepth 100000 in
theorem changes_ok (w : World) (g off n cap : Nat) (ops : List Op3) (hB : Bts w g off (natI (enc ops.length ++ recB 0 0 ops))) (hn : (enc ops.length ++ recB 0 0 ops).length = n) (hc : n ≤ cap) (hn2 : n ≤ 65536) (hr : recOk ops = true) (hm : ops.length ≤ 512) :
    Calls Tryz.prog 19 #[.slice (some ⟨g, off, none⟩) n cap] w (ChgPost w ops) := by
  have HB := Ai.Aside.mk hB
  have HN := Ai.Aside.mk hn
  have HRO := Ai.Aside.mk hr
  obtain ⟨m, hme⟩ : ∃ m, m = ops.length := ⟨_, rfl⟩
  have HM := Ai.Aside.mk hme
  rw [← hme] at hm
  obtain ⟨i0, hi, hz0, hz1, hz2⟩ := info_parts info42
  have HI := Ai.Aside.mk (And.intro hi (And.intro hz0 (And.intro hz1 hz2)))
  clear hB hn hr hme hi hz0 hz1 hz2
  go_enter Tryz.func19, Tryz.ntmps19
  go_upto_region 2 with (fail)
  have HBL := (Below.refl w.heap.size w).alloc (Nat.le_refl _) (.cells #[.slice (some ⟨g, off, none⟩) n cap, .bool false] 120)
  have HR1 := Ai.Aside.mk (show Rdr (w.alloc (.cells #[.slice (some ⟨g, off, none⟩) n cap, .bool false] 120)) w.heap.size g (enc m ++ recB 0 0 ops) from
    ⟨_, cap, by have h := RowV.new w [.slice (some ⟨g, off, none⟩) n cap, .bool false] 120; rw [HM.out, HN.out]; exact h, by rw [HM.out, HN.out]; exact hc, fun _ => ⟨off, rfl, by rw [HM.out]; exact HB.out.below HBL⟩⟩)
  have HW1 := Ai.Aside.mk HBL
  have hgr : g < w.heap.size := HB.out.1
  obtain ⟨r, hr⟩ : ∃ r, r = w.heap.size := ⟨_, rfl⟩
  rw [← hr] at HR1 hgr ⊢
  have HRW := Ai.Aside.mk hr
  clear HBL hr
  generalize World.alloc w _ = w1 at HR1 HW1 ⊢
  have HNUM := Ai.Aside.mk (number_ok w1 r g m (recB 0 0 ops) HR1.out (by omega) (by omega) (by rw [HM.out, HN.out]; exact hn2))
  go_upto_region 8 with (first | (go_at_call 59; go_loud (refine HNUM.out.mono ?_; rintro e w2 ⟨rfl, hmod, hrd⟩; have HR2 := Ai.Aside.mk hrd; have HW2 := Ai.Aside.mk (hmod.below HW1.out HW1.out.size (by rw [HRW.out]; exact Nat.le_refl _)); clear hmod hrd)))
  clear HNUM HR1 HW1
  go_loopw [6, 7, 8, 21] (fun v6 v7 v8 v21 wr => ∃ (k : Nat) (lba phys : Int), k ≤ m ∧ v21 = .int .i64 k ∧ v7 = .int .i64 lba ∧ v8 = .int .i64 phys ∧ (0 ≤ lba ∧ lba ≤ 1024 ∧ 0 ≤ phys ∧ phys ≤ 1049088) ∧
    Ai.Aside (Rdr wr r g (recB lba phys (ops.drop k)) ∧ (recB lba phys (ops.drop k)).length ≤ 65536 ∧ wr.ownsRow (r + 1) 42 3 v6 k (runV (ops.take k)) ∧ Below w.heap.size w wr)) (fun _ _ _ v21 _ => m - (intOf v21).toNat)
  case atStart => exact ⟨0, 0, 0, by omega, rfl, rfl, rfl, by omega, ⟨HR2.out, by have := HN.out; rw [List.length_append] at this; rw [List.drop_zero]; omega, World.ownsRow_nil _ _ _ _, HW2.out⟩⟩
  case round =>
    obtain ⟨k, lba, phys, hk, rfl, rfl, rfl, hbd, HR⟩ := hrel
    clear HR2 HW2
    by_cases hlt : k < m
    · obtain ⟨x, hx⟩ : ∃ x, ops[k]? = some x := ⟨_, List.getElem?_eq_getElem (by rw [← HM.out]; exact hlt)⟩
      have hrx : rightOp x = true := by
        have := HRO.out
        unfold recOk at this
        exact List.all_eq_true.1 this x (List.mem_of_getElem? hx)
      obtain ⟨d, phys', hrec, hcase⟩ := rec_parts (lba := lba) (phys := phys) (r := ops.drop (k + 1)) hrx
      have HX := Ai.Aside.mk hx
      have hdr := drop_of hx
      have HRX := Ai.Aside.mk hrx
      simp only [rightOp, decide_eq_true_eq] at hrx
      have HRD := Ai.Aside.mk (show Rdr wr r g (enc (zig (x.l - lba)) ++ (enc x.n.toNat ++ (enc (zig d) ++ recB (x.l + x.n) phys' (ops.drop (k + 1))))) by have h1 := HR.out.1; rw [hdr, hrec] at h1; exact h1)
      have hlen : (enc (zig (x.l - lba)) ++ (enc x.n.toNat ++ (enc (zig d) ++ recB (x.l + x.n) phys' (ops.drop (k + 1))))).length ≤ 65536 := by have h1 := HR.out.2.1; rw [hdr, hrec] at h1; exact h1
      have hlen1 := hlen
      rw [List.length_append] at hlen1
      have hlen2 := hlen1
      rw [List.length_append] at hlen2
      have hlen3 := hlen2
      rw [List.length_append] at hlen3
      have HL := Ai.Aside.mk (show (enc x.n.toNat ++ (enc (zig d) ++ recB (x.l + x.n) phys' (ops.drop (k + 1)))).length ≤ 65536 ∧ (enc (zig d) ++ recB (x.l + x.n) phys' (ops.drop (k + 1))).length ≤ 65536 ∧ (recB (x.l + x.n) phys' (ops.drop (k + 1))).length ≤ 65536 from ⟨by omega, by omega, by omega⟩)
      obtain ⟨tl, htl⟩ : ∃ tl, tl = recB (x.l + x.n) phys' (ops.drop (k + 1)) := ⟨_, rfl⟩
      have HTL := Ai.Aside.mk htl
      have HGR := Ai.Aside.mk (show g ≠ r by omega)
      rw [← htl] at HRD HL hlen
      have HC1 := Ai.Aside.mk (whole_ok wr r g (x.l - lba) _ HRD.out HGR.out (by omega) (by omega) hlen)
      have HCASE := Ai.Aside.mk hcase
      clear hlen1 hlen2 hlen3 hrec hdr hx htl hlen HRD hcase
      have hw1 : IntKind.i64.wrap (lba + (x.l - lba)) = x.l := by rw [IntKind.wrap_i64]; omega
      have hxn : ((x.n.toNat : Nat) : Int) = x.n := by omega
      go_upto_region 10 with (first | (go_at_call 60; go_loud (refine HC1.out.mono ?_; rintro e w3 ⟨rfl, hmod, hrd⟩; have HM3 := Ai.Aside.mk hmod; have HR3 := Ai.Aside.mk hrd; have HC2 := Ai.Aside.mk (number_ok w3 r g x.n.toNat _ hrd HGR.out (by omega) HL.out.1); clear hmod hrd)) | (go_at_call 59; go_loud (refine HC2.out.mono ?_; rintro e w4 ⟨rfl, hmod, hrd⟩; have HM4 := Ai.Aside.mk (HM3.out.trans hmod); have HR4 := Ai.Aside.mk hrd; clear hmod hrd; rw [hxn])))
      have HBL := (Below.refl w4.heap.size w4).alloc (Nat.le_refl _) (.cells #[.int .i64 x.l, .int .i64 x.n, .int .i64 (-1)] 42)
      have HQ5 := Ai.Aside.mk (RowV.new w4 [.int .i64 x.l, .int .i64 x.n, .int .i64 (-1)] 42)
      have HR5 := Ai.Aside.mk (HR4.out.below HBL)
      have hwr : w.heap.size ≤ wr.heap.size := HR.out.2.2.2.size
      have HW4 := HM4.out.below HR.out.2.2.2 hwr (show w.heap.size ≤ r by rw [HRW.out]; exact Nat.le_refl _)
      have HW5 := Ai.Aside.mk (HW4.trans (HBL.mono HW4.size))
      have HO5 := Ai.Aside.mk (own_below (own_mod HR.out.2.2.1 HM4.out (fun e => by have := (HR.out.2.2.1.lt r e).1; omega)) HBL)
      have hrq : r < w4.heap.size := HR4.out.lt
      obtain ⟨q, hq⟩ : ∃ q, q = w4.heap.size := ⟨_, rfl⟩
      rw [← hq] at HQ5 hrq ⊢
      have HNQ := Ai.Aside.mk (show r ≠ q ∧ g ≠ q from ⟨by omega, by omega⟩)
      have HQN := Ai.Aside.mk (show ∀ j, (u6.ownBlock = some j → j ≠ q) ∧ w.heap.size ≤ q from fun j => ⟨fun e => by have h1 := (HR.out.2.2.1.lt j e).2; have h2 := HM4.out.size; omega, by have := HW4.size; omega⟩)
      have HLT := Ai.Aside.mk (show (recB (x.l + x.n) phys' (ops.drop (k + 1))).length ≤ 65536 by rw [← HTL.out]; exact HL.out.2.2)
      have HC3 := Ai.Aside.mk (whole_ok _ r g d _ HR5.out HGR.out (by have := HCASE.out; omega) (by have := HCASE.out; omega) HL.out.2.1)
      clear HBL HW4 HC1 HC2 HM3 HR3 HM4 HR4 HR hq hrq hwr HL hw1 hxn
      generalize World.alloc w4 _ = w5 at HQ5 HR5 HW5 HO5 HC3 ⊢
      go_upto_region 11 with (first | (go_at_call 60; go_loud (refine HC3.out.mono ?_; rintro e w6 ⟨rfl, hmod, hrd⟩; have HR6 := Ai.Aside.mk hrd; have HQ6 := Ai.Aside.mk (HQ5.out.mod hmod (Ne.symm HNQ.out.1)); have HW6 := Ai.Aside.mk (hmod.below HW5.out HW5.out.size (show w.heap.size ≤ r by rw [HRW.out]; exact Nat.le_refl _)); have HO6 := Ai.Aside.mk (own_mod HO5.out hmod (fun e => by have := (HO5.out.lt r e).1; omega)); clear hmod hrd)))
      clear HC3 HR5 HQ5 HW5 HO5
      have HTYPE : True := trivial
      rcases HCASE.out with ⟨hp, hd, hph⟩ | ⟨hp, hd, hdp, hph⟩ | ⟨hp, hd, hdp, hph⟩
      · clear HCASE
        subst hd
        have HR7 := HR6
        have HQ7 := Ai.Aside.mk (show RowV w6 q 42 [.int .i64 x.l, .int .i64 x.n, .int .i64 x.p] by rw [hp]; exact HQ6.out)
        have HW7 := HW6
        have HO7 := HO6
        clear HR6 HQ6 HW6 HO6
        obtain ⟨c0, c1, c2, cf⟩ := row3 HQ7.out
        have cb := HR7.out.bad
        have hs1 : IntKind.i64.wrap (x.l + x.n) = x.l + x.n := by rw [IntKind.wrap_i64]; omega
        have HPH := Ai.Aside.mk hph
        have hp2 : x.p < 0 := by omega
        have HPE := Ai.Aside.mk hp
        clear hph hp
        go_wp2_with (first | (go_at_call 47; go_loud (refine (right_ok _ x).mono ?_; rintro e w8 ⟨rfl, hb8⟩; rw [HRX.out]; have HR8 := Ai.Aside.mk (HR7.out.below hb8); have HQ8 := Ai.Aside.mk (HQ7.out.below hb8); have HO8 := Ai.Aside.mk (own_below HO7.out hb8); have HW8 := Ai.Aside.mk (HW7.out.trans (hb8.mono HW7.out.size)); clear hb8 c0 c1 c2 cf cb; obtain ⟨c0, c1, c2, cf⟩ := row3 HQ8.out; have cb := HR8.out.bad)) | (at_builtin; go_loud (refine wpList_append_own _ rfl (.tmp 72) (.tmp 74) 25 rfl (r + 1) 42 i0 (.agg #[(.int .i64 0), (.int .i64 0), (.int .i64 0)]) 3 24 Tryz.underlying25 HI.out.1 HI.out.2.1 HI.out.2.2.1 HI.out.2.2.2 rfl (by decide) u6 k (runV (ops.take k)) (by kernel_rfl) (HO8.out.alloc _) ⟨w8.heap.size, 0, none⟩ 1 1 [.int .i64 x.l, .int .i64 x.n, .int .i64 x.p] (by kernel_rfl) rfl three_new (by simp [Value.oneCell']) (by unfold maxLen; omega) (by omega) (by have h1 := HR8.out.lt; simp; omega) ?_; intro v' w9 hown9 hgrow9 hnil9; have HO9 := Ai.Aside.mk hown9; have HG9 := Ai.Aside.mk hgrow9; clear hown9 hgrow9 hnil9)))
        have HA := Ai.Aside.mk (HO8.out.alloc (.cells #[.int .i64 x.l, .int .i64 x.n, .int .i64 x.p] 42))
        have HR9 := Ai.Aside.mk ((HR8.out.below ((Below.refl _ _).alloc (Nat.le_refl _) (.cells #[.int .i64 x.l, .int .i64 x.n, .int .i64 x.p] 42))).grown HG9.out (fun e => by have := (HA.out.lt r e).1; omega) (fun e => by have := (HA.out.lt g e).1; omega))
        have HW9 := Ai.Aside.mk ((HW8.out.alloc HW8.out.size (.cells #[.int .i64 x.l, .int .i64 x.n, .int .i64 x.p] 42)).grown HG9.out (by have := HW8.out.size; simp; omega) (fun j hj => by have h1 := (HA.out.lt j hj).1; have h2 := HRW.out; omega))
        have HTK := Ai.Aside.mk (show runV (ops.take k) ++ [.int .i64 x.l, .int .i64 x.n, .int .i64 x.p] = runV (ops.take (k + 1)) by rw [List.take_add_one, HX.out, runV_append]; rfl)
        go_roundw
        case rel => exact ⟨k + 1, x.l + x.n, phys, by omega, by go_num, rfl, rfl, by omega, ⟨by have h := HR9.out; rw [HTL.out] at h; exact HPH.out ▸ h, HPH.out ▸ HLT.out, by rw [← HTK.out]; exact HO9.out, HW9.out⟩⟩
        case measure => simp [intOf]; omega

      · clear HCASE
        obtain ⟨c0, c1, c2, cf⟩ := row3 HQ6.out
        have cb := HR6.out.bad
        have hs1 : IntKind.i64.wrap (x.l + x.n) = x.l + x.n := by rw [IntKind.wrap_i64]; omega
        have hs2 : IntKind.i64.wrap (x.p + x.n) = x.p + x.n := by rw [IntKind.wrap_i64]; omega
        have hs3 : IntKind.i64.wrap (phys + d) = phys + d := by rw [IntKind.wrap_i64]; omega
        have hs4 : IntKind.i64.wrap (phys + d - 1) = x.p := by rw [IntKind.wrap_i64]; omega
        have HPH := Ai.Aside.mk hph
        have HDP := Ai.Aside.mk hdp
        clear hph hdp
        go_upto_region 17 with (fail)
        have hmq := mod_set w6 q 2 (.int .i64 x.p)
        have HQ7 := Ai.Aside.mk (show RowV (w6.setCell ⟨q, 2, none⟩ (.int .i64 x.p)) q 42 [.int .i64 x.l, .int .i64 x.n, .int .i64 x.p] from HQ6.out.set 2 _)
        have HR7 := Ai.Aside.mk (HR6.out.mod hmq HNQ.out.1 HNQ.out.2)
        have HW7 := Ai.Aside.mk (hmq.below HW6.out HW6.out.size (HQN.out 0).2)
        have HO7 := Ai.Aside.mk (own_mod HO6.out hmq (fun e => (HQN.out q).1 e rfl))
        clear HR6 HQ6 HW6 HO6 hmq c0 c1 c2 cf cb
        obtain ⟨c0, c1, c2, cf⟩ := row3 HQ7.out
        have cb := HR7.out.bad
        generalize World.setCell w6 _ _ = w7 at HQ7 HR7 HW7 HO7 c0 c1 c2 cf cb ⊢
        go_wp2_with (first | (go_at_call 47; go_loud (refine (right_ok _ x).mono ?_; rintro e w8 ⟨rfl, hb8⟩; rw [HRX.out]; have HR8 := Ai.Aside.mk (HR7.out.below hb8); have HQ8 := Ai.Aside.mk (HQ7.out.below hb8); have HO8 := Ai.Aside.mk (own_below HO7.out hb8); have HW8 := Ai.Aside.mk (HW7.out.trans (hb8.mono HW7.out.size)); clear hb8 c0 c1 c2 cf cb; obtain ⟨c0, c1, c2, cf⟩ := row3 HQ8.out; have cb := HR8.out.bad)) | (at_builtin; go_loud (refine wpList_append_own _ rfl (.tmp 72) (.tmp 74) 25 rfl (r + 1) 42 i0 (.agg #[(.int .i64 0), (.int .i64 0), (.int .i64 0)]) 3 24 Tryz.underlying25 HI.out.1 HI.out.2.1 HI.out.2.2.1 HI.out.2.2.2 rfl (by decide) u6 k (runV (ops.take k)) (by kernel_rfl) (HO8.out.alloc _) ⟨w8.heap.size, 0, none⟩ 1 1 [.int .i64 x.l, .int .i64 x.n, .int .i64 x.p] (by kernel_rfl) rfl three_new (by simp [Value.oneCell']) (by unfold maxLen; omega) (by omega) (by have h1 := HR8.out.lt; simp; omega) ?_; intro v' w9 hown9 hgrow9 hnil9; have HO9 := Ai.Aside.mk hown9; have HG9 := Ai.Aside.mk hgrow9; clear hown9 hgrow9 hnil9)))
        have HA := Ai.Aside.mk (HO8.out.alloc (.cells #[.int .i64 x.l, .int .i64 x.n, .int .i64 x.p] 42))
        have HR9 := Ai.Aside.mk ((HR8.out.below ((Below.refl _ _).alloc (Nat.le_refl _) (.cells #[.int .i64 x.l, .int .i64 x.n, .int .i64 x.p] 42))).grown HG9.out (fun e => by have := (HA.out.lt r e).1; omega) (fun e => by have := (HA.out.lt g e).1; omega))
        have HW9 := Ai.Aside.mk ((HW8.out.alloc HW8.out.size (.cells #[.int .i64 x.l, .int .i64 x.n, .int .i64 x.p] 42)).grown HG9.out (by have := HW8.out.size; simp; omega) (fun j hj => by have h1 := (HA.out.lt j hj).1; have h2 := HRW.out; omega))
        have HTK := Ai.Aside.mk (show runV (ops.take k) ++ [.int .i64 x.l, .int .i64 x.n, .int .i64 x.p] = runV (ops.take (k + 1)) by rw [List.take_add_one, HX.out, runV_append]; rfl)
        go_roundw
        case rel => exact ⟨k + 1, x.l + x.n, x.p + x.n, by omega, by go_num, rfl, rfl, by omega, ⟨by have h := HR9.out; rw [HTL.out] at h; exact HPH.out ▸ h, HPH.out ▸ HLT.out, by rw [← HTK.out]; exact HO9.out, HW9.out⟩⟩
        case measure => simp [intOf]; omega

      · clear HCASE
        obtain ⟨c0, c1, c2, cf⟩ := row3 HQ6.out
        have cb := HR6.out.bad
        have hs1 : IntKind.i64.wrap (x.l + x.n) = x.l + x.n := by rw [IntKind.wrap_i64]; omega
        have hs2 : IntKind.i64.wrap (x.p + x.n) = x.p + x.n := by rw [IntKind.wrap_i64]; omega
        have hs4 : IntKind.i64.wrap (phys + d) = x.p := by rw [IntKind.wrap_i64]; omega
        have HPH := Ai.Aside.mk hph
        have HDP := Ai.Aside.mk hdp
        clear hph hdp
        go_upto_region 17 with (fail)
        have hmq := mod_set w6 q 2 (.int .i64 x.p)
        have HQ7 := Ai.Aside.mk (show RowV (w6.setCell ⟨q, 2, none⟩ (.int .i64 x.p)) q 42 [.int .i64 x.l, .int .i64 x.n, .int .i64 x.p] from HQ6.out.set 2 _)
        have HR7 := Ai.Aside.mk (HR6.out.mod hmq HNQ.out.1 HNQ.out.2)
        have HW7 := Ai.Aside.mk (hmq.below HW6.out HW6.out.size (HQN.out 0).2)
        have HO7 := Ai.Aside.mk (own_mod HO6.out hmq (fun e => (HQN.out q).1 e rfl))
        clear HR6 HQ6 HW6 HO6 hmq c0 c1 c2 cf cb
        obtain ⟨c0, c1, c2, cf⟩ := row3 HQ7.out
        have cb := HR7.out.bad
        generalize World.setCell w6 _ _ = w7 at HQ7 HR7 HW7 HO7 c0 c1 c2 cf cb ⊢
        go_wp2_with (first | (go_at_call 47; go_loud (refine (right_ok _ x).mono ?_; rintro e w8 ⟨rfl, hb8⟩; rw [HRX.out]; have HR8 := Ai.Aside.mk (HR7.out.below hb8); have HQ8 := Ai.Aside.mk (HQ7.out.below hb8); have HO8 := Ai.Aside.mk (own_below HO7.out hb8); have HW8 := Ai.Aside.mk (HW7.out.trans (hb8.mono HW7.out.size)); clear hb8 c0 c1 c2 cf cb; obtain ⟨c0, c1, c2, cf⟩ := row3 HQ8.out; have cb := HR8.out.bad)) | (at_builtin; go_loud (refine wpList_append_own _ rfl (.tmp 72) (.tmp 74) 25 rfl (r + 1) 42 i0 (.agg #[(.int .i64 0), (.int .i64 0), (.int .i64 0)]) 3 24 Tryz.underlying25 HI.out.1 HI.out.2.1 HI.out.2.2.1 HI.out.2.2.2 rfl (by decide) u6 k (runV (ops.take k)) (by kernel_rfl) (HO8.out.alloc _) ⟨w8.heap.size, 0, none⟩ 1 1 [.int .i64 x.l, .int .i64 x.n, .int .i64 x.p] (by kernel_rfl) rfl three_new (by simp [Value.oneCell']) (by unfold maxLen; omega) (by omega) (by have h1 := HR8.out.lt; simp; omega) ?_; intro v' w9 hown9 hgrow9 hnil9; have HO9 := Ai.Aside.mk hown9; have HG9 := Ai.Aside.mk hgrow9; clear hown9 hgrow9 hnil9)))
        have HA := Ai.Aside.mk (HO8.out.alloc (.cells #[.int .i64 x.l, .int .i64 x.n, .int .i64 x.p] 42))
        have HR9 := Ai.Aside.mk ((HR8.out.below ((Below.refl _ _).alloc (Nat.le_refl _) (.cells #[.int .i64 x.l, .int .i64 x.n, .int .i64 x.p] 42))).grown HG9.out (fun e => by have := (HA.out.lt r e).1; omega) (fun e => by have := (HA.out.lt g e).1; omega))
        have HW9 := Ai.Aside.mk ((HW8.out.alloc HW8.out.size (.cells #[.int .i64 x.l, .int .i64 x.n, .int .i64 x.p] 42)).grown HG9.out (by have := HW8.out.size; simp; omega) (fun j hj => by have h1 := (HA.out.lt j hj).1; have h2 := HRW.out; omega))
        have HTK := Ai.Aside.mk (show runV (ops.take k) ++ [.int .i64 x.l, .int .i64 x.n, .int .i64 x.p] = runV (ops.take (k + 1)) by rw [List.take_add_one, HX.out, runV_append]; rfl)
        go_roundw
        case rel => exact ⟨k + 1, x.l + x.n, x.p + x.n, by omega, by go_num, rfl, rfl, by omega, ⟨by have h := HR9.out; rw [HTL.out] at h; exact HPH.out ▸ h, HPH.out ▸ HLT.out, by rw [← HTK.out]; exact HO9.out, HW9.out⟩⟩
        case measure => simp [intOf]; omega

    · obtain rfl : k = m := by omega
      have hin : ∀ x ∈ ops, inI x.l ∧ inI x.n ∧ inI x.p := fun x hx => by
        have h := HRO.out
        unfold recOk at h
        have h2 := List.all_eq_true.1 h x hx
        simp only [rightOp, decide_eq_true_eq] at h2
        unfold inI
        omega
      have HOW := HR.out.2.2.1
      rw [HM.out, List.take_length] at HOW
      obtain ⟨A, cA, hv, hacts, -⟩ := own3e HOW hin
      rw [← HM.out] at hv HOW
      have HO := Ai.Aside.mk HOW
      have cb := HR.out.1.bad
      have HRC := Ai.Aside.mk (record_ok wr A cA ops hacts (by rw [← HM.out]; exact hm))
      rw [← HM.out] at HRC
      have HBD := Ai.Aside.mk (HB.out.below HR.out.2.2.2)
      rw [← HM.out] at HBD HN
      have HRL := Ai.Aside.mk HR.out.1.lt
      clear hacts HOW hin
      subst hv
      go_upto_region 25 with (first | (go_at_call 14; go_loud (refine HRC.out.mono ?_; rintro e w5 ⟨v5, er, rfl, hb5, hok, -⟩; obtain ⟨rfl, hown⟩ := hok HRO.out; have HO5 := Ai.Aside.mk hown; have HB5 := Ai.Aside.mk hb5; clear hb5 hok hown)))
      have hpos : 1 ≤ (enc k ++ recB 0 0 ops).length := by rw [List.length_append]; have := enc_pos k; omega
      have HO6 := HO5.out
      obtain ⟨L, hL⟩ : ∃ L, (enc k ++ recB 0 0 ops).length = L + 1 := ⟨_, (Nat.sub_add_cancel hpos).symm⟩
      have HBT := own_bts HO6
      rw [hL] at HO6
      obtain ⟨g5, c5, rfl⟩ := own_some HO6
      have hbt := HBT g5 c5 (by rw [hL])
      have HEQ := Ai.Aside.mk (bequal_ok w5 g5 0 c5 g off cap n _ hbt (HBD.out.below HB5.out) (by rw [natI, List.length_map]; exact HN.out))
      have hLn : L + 1 = n := by rw [← hL]; exact HN.out
      rw [hLn]
      have cb5 : w5.cell? ⟨r, 1, none⟩ = some (.bool false) := by rw [HB5.out.cell HRL.out]; exact cb
      clear HBT HO6 hbt cb hpos hL
      go_wp2_with (first | (go_at_call 61; go_loud (refine HEQ.out.mono ?_; rintro e w6 ⟨rfl, hw⟩; have hw2 := hw.symm; clear hw; subst hw2)))
      go_ret2
      exact ⟨_, rfl, by rw [← HM.out]; exact own_base (own_below HO.out HB5.out) (by have := HRW.out; omega), HR.out.2.2.2.trans (HB5.out.mono HR.out.2.2.2.size)⟩
end Lo
end Go.Proofs.YtjmhkcfdmcjilaaGreat
set_option linter.unusedVariables false
set_option linter.unusedSimpArgs false
namespace Go.Proofs.YtjmhkcfdmcjilaaGreat
namespace Lo
open Go.RowKit Ai Fi

theorem snapB_le : ∀ (r : List Op3) (lba phys : Int) (x : Nat), x ∈ snapB lba phys r → x ≤ 255
  | [], _, _, x, hx => by cases hx
  | y :: r, lba, phys, x, hx => by
    rw [snapB, List.mem_append, List.mem_append, List.mem_append] at hx
    rcases hx with ((hx | hx) | hx) | hx
    · exact enc_le _ _ hx
    · exact enc_le _ _ hx
    · exact enc_le _ _ hx
    · exact snapB_le r _ _ x hx

theorem own_bts2 {w : World} {base n : Nat} {l : List Nat} {v : Value} (h : w.ownsRow base 5 1 v n (bytesV l)) (hb : ∀ x ∈ l, x ≤ 255) :
    ∀ g c, v = .slice (some ⟨g, 0, none⟩) n c → Bts w g 0 (natI l) := by
  intro g c hv
  subst hv
  have hl : n = l.length := by have := h.1; simpa [bytesV] using this.symm
  refine ⟨(h.lt g rfl).2, fun i x hx => ⟨?_, natI_byte hb x (List.mem_of_getElem? hx)⟩⟩
  have hi := (List.getElem?_eq_some_iff.1 hx).1
  rw [natI, List.length_map] at hi
  rw [Nat.zero_add, h.cellAt i (by omega), bytesV_natI, byI, List.getElem?_map, hx]
  rfl

def RunsPost (w : World) (ops : List Op3) (e : Ending) (w' : World) : Prop := ∃ v, e = .returned (.tuple #[v, .int .i64 0]) ∧ w'.ownsRow w.heap.size 94 3 v ops.length (runV ops) ∧ Below w.heap.size w w'

theorem row3b {w : World} {q : Nat} {a b c : Int} (h : RowV w q 94 [.int .i64 a, .int .i64 b, .int .i64 c]) : w.cell? ⟨q, 0, none⟩ = some (.int .i64 a) ∧ w.cell? ⟨q, 1, none⟩ = some (.int .i64 b) ∧ w.cell? ⟨q, 2, none⟩ = some (.int .i64 c) :=
  ⟨h.cell rfl, h.cell rfl, h.cell rfl⟩

set_option maxHeartbeats 4000000 in
set_option maxRecDepth 100000 in
theorem readruns_ok (w : World) (g off n cap : Nat) (ops : List Op3) (hB : Bts w g off (natI (enc ops.length ++ snapB 0 0 ops))) (hn : (enc ops.length ++ snapB 0 0 ops).length = n) (hc : n ≤ cap) (hn2 : n ≤ 65536) (hr : okRuns ops) (hm : ops.length ≤ 512) :
    Calls Tryz.prog 23 #[.slice (some ⟨g, off, none⟩) n cap] w (RunsPost w ops) := by
  have HB := Ai.Aside.mk hB
  have HN := Ai.Aside.mk hn
  have HRO := Ai.Aside.mk hr
  obtain ⟨m, hme⟩ : ∃ m, m = ops.length := ⟨_, rfl⟩
  have HM := Ai.Aside.mk hme
  rw [← hme] at hm
  obtain ⟨i0, hi, hz0, hz1, hz2⟩ := info_parts info94
  have HI := Ai.Aside.mk (And.intro hi (And.intro hz0 (And.intro hz1 hz2)))
  clear hB hn hr hme hi hz0 hz1 hz2
  go_enter Tryz.func23, Tryz.ntmps23
  go_upto_region 2 with (fail)
  have HBL := (Below.refl w.heap.size w).alloc (Nat.le_refl _) (.cells #[.slice (some ⟨g, off, none⟩) n cap, .bool false] 120)
  have HR1 := Ai.Aside.mk (show Rdr (w.alloc (.cells #[.slice (some ⟨g, off, none⟩) n cap, .bool false] 120)) w.heap.size g (enc m ++ snapB 0 0 ops) from
    ⟨_, cap, by have h := RowV.new w [.slice (some ⟨g, off, none⟩) n cap, .bool false] 120; rw [HM.out, HN.out]; exact h, by rw [HM.out, HN.out]; exact hc, fun _ => ⟨off, rfl, by rw [HM.out]; exact HB.out.below HBL⟩⟩)
  have HW1 := Ai.Aside.mk HBL
  have hgr : g < w.heap.size := HB.out.1
  obtain ⟨r, hr⟩ : ∃ r, r = w.heap.size := ⟨_, rfl⟩
  rw [← hr] at HR1 hgr ⊢
  have HRW := Ai.Aside.mk hr
  clear HBL hr
  generalize World.alloc w _ = w1 at HR1 HW1 ⊢
  have HNUM := Ai.Aside.mk (number_ok w1 r g m (snapB 0 0 ops) HR1.out (by omega) (by omega) (by rw [HM.out, HN.out]; exact hn2))
  go_upto_region 8 with (first | (go_at_call 59; go_loud (refine HNUM.out.mono ?_; rintro e w2 ⟨rfl, hmod, hrd⟩; have HR2 := Ai.Aside.mk hrd; have HW2 := Ai.Aside.mk (hmod.below HW1.out HW1.out.size (by rw [HRW.out]; exact Nat.le_refl _)); clear hmod hrd)))
  clear HNUM HR1 HW1
  go_loopw [6, 7, 8, 20] (fun v6 v7 v8 v20 wr => ∃ (k : Nat) (lba phys : Int), k ≤ m ∧ v20 = .int .i64 k ∧ v7 = .int .i64 lba ∧ v8 = .int .i64 phys ∧ (0 ≤ lba ∧ lba ≤ 512 ∧ 0 ≤ phys ∧ phys ≤ 1049088) ∧
    Ai.Aside (Rdr wr r g (snapB lba phys (ops.drop k)) ∧ (snapB lba phys (ops.drop k)).length ≤ 65536 ∧ (∀ x, ops[k]? = some x → lba ≤ x.l) ∧ wr.ownsRow (r + 1) 94 3 v6 k (runV (ops.take k)) ∧ Below w.heap.size w wr)) (fun _ _ _ v20 _ => m - (intOf v20).toNat)
  case atStart => exact ⟨0, 0, 0, by omega, rfl, rfl, rfl, by omega, ⟨HR2.out, by have := HN.out; rw [List.length_append] at this; rw [List.drop_zero]; omega, fun x hx => (HRO.out.1 x (List.mem_of_getElem? hx)).1, World.ownsRow_nil _ _ _ _, HW2.out⟩⟩
  case round =>
    obtain ⟨k, lba, phys, hk, rfl, rfl, rfl, hbd, HR⟩ := hrel
    clear HR2 HW2
    by_cases hlt : k < m
    · obtain ⟨x, hx⟩ : ∃ x, ops[k]? = some x := ⟨_, List.getElem?_eq_getElem (by rw [← HM.out]; exact hlt)⟩
      have hrx := HRO.out.1 x (List.mem_of_getElem? hx)
      have hxl := HR.out.2.2.1 x hx
      have hrec : snapB lba phys (x :: ops.drop (k + 1)) = enc (x.l - lba).toNat ++ (enc (x.n - 1).toNat ++ (enc (zig (x.p - phys)) ++ snapB (x.l + x.n) (x.p + x.n) (ops.drop (k + 1)))) := by rw [snapB]; simp
      have HX := Ai.Aside.mk hx
      have hdr := drop_of hx
      have HRD := Ai.Aside.mk (show Rdr wr r g (enc (x.l - lba).toNat ++ (enc (x.n - 1).toNat ++ (enc (zig (x.p - phys)) ++ snapB (x.l + x.n) (x.p + x.n) (ops.drop (k + 1))))) by have h1 := HR.out.1; rw [hdr, hrec] at h1; exact h1)
      have hlen : (enc (x.l - lba).toNat ++ (enc (x.n - 1).toNat ++ (enc (zig (x.p - phys)) ++ snapB (x.l + x.n) (x.p + x.n) (ops.drop (k + 1))))).length ≤ 65536 := by have h1 := HR.out.2.1; rw [hdr, hrec] at h1; exact h1
      have hlen1 := hlen
      rw [List.length_append] at hlen1
      have hlen2 := hlen1
      rw [List.length_append] at hlen2
      have hlen3 := hlen2
      rw [List.length_append] at hlen3
      have HL := Ai.Aside.mk (show (enc (x.n - 1).toNat ++ (enc (zig (x.p - phys)) ++ snapB (x.l + x.n) (x.p + x.n) (ops.drop (k + 1)))).length ≤ 65536 ∧ (enc (zig (x.p - phys)) ++ snapB (x.l + x.n) (x.p + x.n) (ops.drop (k + 1))).length ≤ 65536 ∧ (snapB (x.l + x.n) (x.p + x.n) (ops.drop (k + 1))).length ≤ 65536 from ⟨by omega, by omega, by omega⟩)
      obtain ⟨tl, htl⟩ : ∃ tl, tl = snapB (x.l + x.n) (x.p + x.n) (ops.drop (k + 1)) := ⟨_, rfl⟩
      have HTL := Ai.Aside.mk htl
      have HGR := Ai.Aside.mk (show g ≠ r by omega)
      rw [← htl] at HRD HL hlen
      have HC1 := Ai.Aside.mk (number_ok wr r g (x.l - lba).toNat _ HRD.out HGR.out (by omega) hlen)
      have hw1 : IntKind.i64.wrap (lba + (x.l - lba)) = x.l := by rw [IntKind.wrap_i64]; omega
      have hw2 : IntKind.i64.wrap (x.n - 1 + 1) = x.n := by rw [IntKind.wrap_i64]; omega
      have hw3 : IntKind.i64.wrap (phys + (x.p - phys)) = x.p := by rw [IntKind.wrap_i64]; omega
      have hxa : (((x.l - lba).toNat : Nat) : Int) = x.l - lba := by omega
      have hxb : (((x.n - 1).toNat : Nat) : Int) = x.n - 1 := by omega
      have HAB := Ai.Aside.mk (And.intro hxa hxb)
      clear hlen1 hlen2 hlen3 hrec hdr hx htl hlen HRD hxa hxb
      go_upto_region 10 with (first | (go_at_call 59; go_loud (refine HC1.out.mono ?_; rintro e w3 ⟨rfl, hmod, hrd⟩; rw [HAB.out.1]; have HM3 := Ai.Aside.mk hmod; have HR3 := Ai.Aside.mk hrd; have HC2 := Ai.Aside.mk (number_ok w3 r g (x.n - 1).toNat _ hrd HGR.out (by omega) HL.out.1); clear HC1 hmod hrd)) | (go_at_call 59; go_loud (refine HC2.out.mono ?_; rintro e w4 ⟨rfl, hmod, hrd⟩; rw [HAB.out.2]; have HM4 := Ai.Aside.mk (HM3.out.trans hmod); have HR4 := Ai.Aside.mk hrd; have HC3 := Ai.Aside.mk (whole_ok w4 r g (x.p - phys) _ hrd HGR.out (by omega) (by omega) HL.out.2.1); clear hmod hrd)) | (go_at_call 60; go_loud (refine HC3.out.mono ?_; rintro e w5 ⟨rfl, hmod, hrd⟩; have HM5 := Ai.Aside.mk (HM4.out.trans hmod); have HR5 := Ai.Aside.mk hrd; clear hmod hrd)))
      have HBL := (Below.refl w5.heap.size w5).alloc (Nat.le_refl _) (.cells #[.int .i64 x.l, .int .i64 x.n, .int .i64 x.p] 94)
      have HQ6 := Ai.Aside.mk (RowV.new w5 [.int .i64 x.l, .int .i64 x.n, .int .i64 x.p] 94)
      have HR6 := Ai.Aside.mk (HR5.out.below HBL)
      have HW5 := HM5.out.below HR.out.2.2.2.2 HR.out.2.2.2.2.size (show w.heap.size ≤ r by rw [HRW.out]; exact Nat.le_refl _)
      have HW6 := Ai.Aside.mk (HW5.trans (HBL.mono HW5.size))
      have HO6 := Ai.Aside.mk (own_below (own_mod HR.out.2.2.2.1 HM5.out (fun e => by have := (HR.out.2.2.2.1.lt r e).1; omega)) HBL)
      have hrq : r < w5.heap.size := HR5.out.lt
      obtain ⟨q, hq⟩ : ∃ q, q = w5.heap.size := ⟨_, rfl⟩
      rw [← hq] at HQ6 hrq ⊢
      have HLT := Ai.Aside.mk (show (snapB (x.l + x.n) (x.p + x.n) (ops.drop (k + 1))).length ≤ 65536 by rw [← HTL.out]; exact HL.out.2.2)
      have hs1 : IntKind.i64.wrap (x.l + x.n) = x.l + x.n := by rw [IntKind.wrap_i64]; omega
      have hs2 : IntKind.i64.wrap (x.p + x.n) = x.p + x.n := by rw [IntKind.wrap_i64]; omega
      have hd1 : decide (512 < x.l) = false := decide_eq_false (by omega)
      have hd2 : decide (512 < x.n) = false := decide_eq_false (by omega)
      have hd3 : decide (x.p < 0) = false := decide_eq_false (by omega)
      have hd4 : decide (1048576 < x.p) = false := decide_eq_false (by omega)
      clear HBL HW5 HC2 HC3 HM3 HR3 HM4 HR4 HM5 HR5 HR hq hrq HL hw1 hw2 hw3
      generalize World.alloc w5 _ = w6 at HQ6 HR6 HW6 HO6 ⊢
      obtain ⟨c0, c1, c2⟩ := row3b HQ6.out
      have cb := HR6.out.bad
      go_upto_region 12 with (fail)
      go_quiet ((fail))
      clear c0 c1 c2 cb
      have HR7 := Ai.Aside.mk (HR6.out.below (below_drewN (Below.refl _ _) nq))
      have HW7 := Ai.Aside.mk (below_drewN HW6.out nq)
      have HO7 := Ai.Aside.mk (own_drewN HO6.out nq)
      have HQ7 := Ai.Aside.mk (HQ6.out.below (below_drewN (Below.refl _ _) nq))
      clear HR6 HW6 HO6 HQ6
      generalize World.drewN w6 nq = w8 at HQ7 HR7 HW7 HO7 ⊢
      obtain ⟨c0, c1, c2⟩ := row3b HQ7.out
      go_wp2_with (first | (at_builtin; go_loud (refine wpList_append_own _ rfl (.tmp 68) (.tmp 70) 33 rfl (r + 1) 94 i0 (.agg #[(.int .i64 0), (.int .i64 0), (.int .i64 0)]) 3 24 Tryz.underlying33 HI.out.1 HI.out.2.1 HI.out.2.2.1 HI.out.2.2.2 rfl (by decide) u6 k (runV (ops.take k)) (by kernel_rfl) (HO7.out.alloc _) ⟨w8.heap.size, 0, none⟩ 1 1 [.int .i64 x.l, .int .i64 x.n, .int .i64 x.p] (by kernel_rfl) rfl three_new (by simp [Value.oneCell']) (by unfold maxLen; omega) (by omega) (by have h1 := HR7.out.lt; simp; omega) ?_; intro v' w9 hown9 hgrow9 hnil9; have HO9 := Ai.Aside.mk hown9; have HG9 := Ai.Aside.mk hgrow9; clear hown9 hgrow9 hnil9)))
      have HA := Ai.Aside.mk (HO7.out.alloc (.cells #[.int .i64 x.l, .int .i64 x.n, .int .i64 x.p] 94))
      have HR9 := Ai.Aside.mk ((HR7.out.below ((Below.refl _ _).alloc (Nat.le_refl _) (.cells #[.int .i64 x.l, .int .i64 x.n, .int .i64 x.p] 94))).grown HG9.out (fun e => by have := (HA.out.lt r e).1; omega) (fun e => by have := (HA.out.lt g e).1; omega))
      have HW9 := Ai.Aside.mk ((HW7.out.alloc HW7.out.size (.cells #[.int .i64 x.l, .int .i64 x.n, .int .i64 x.p] 94)).grown HG9.out (by have := HW7.out.size; simp; omega) (fun j hj => by have h1 := (HA.out.lt j hj).1; have h2 := HRW.out; omega))
      have HTK := Ai.Aside.mk (show runV (ops.take k) ++ [.int .i64 x.l, .int .i64 x.n, .int .i64 x.p] = runV (ops.take (k + 1)) by rw [List.take_add_one, HX.out, runV_append]; rfl)
      have RN := Ai.Aside.mk (show ∀ y, ops[k + 1]? = some y → x.l + x.n ≤ y.l from fun y hy => by have := (HRO.out.2 k x y HX.out hy).1; omega)
      go_roundw
      case rel => exact ⟨k + 1, x.l + x.n, x.p + x.n, by omega, by go_num, rfl, rfl, by omega, ⟨by have h := HR9.out; rw [HTL.out] at h; exact h, HLT.out, RN.out, by rw [← HTK.out]; exact HO9.out, HW9.out⟩⟩
      case measure => simp [intOf]; omega
    · obtain rfl : k = m := by omega
      have hin : ∀ x ∈ ops, inI x.l ∧ inI x.n ∧ inI x.p := fun x hx => by
        have h := HRO.out.1 x hx
        unfold inI
        omega
      have HOW := HR.out.2.2.2.1
      rw [HM.out, List.take_length] at HOW
      obtain ⟨A, cA, hv, hacts, -⟩ := own3e HOW hin
      rw [← HM.out] at hv HOW
      have HO := Ai.Aside.mk HOW
      have cb := HR.out.1.bad
      have HRC := Ai.Aside.mk (snapshot_ok wr A cA ops hacts (by rw [← HM.out]; exact hm) HRO.out)
      rw [← HM.out] at HRC
      have HBD := Ai.Aside.mk (HB.out.below HR.out.2.2.2.2)
      rw [← HM.out] at HBD HN
      have HRL := Ai.Aside.mk HR.out.1.lt
      clear hacts HOW hin
      subst hv
      go_upto_region 16 with (first | (go_at_call 11; go_loud (refine HRC.out.mono ?_; rintro e w5 ⟨v5, rfl, hb5, hown⟩; have HO5 := Ai.Aside.mk hown; have HB5 := Ai.Aside.mk hb5; clear hb5 hown)))
      have hpos : 1 ≤ (enc k ++ snapB 0 0 ops).length := by rw [List.length_append]; have := enc_pos k; omega
      have HO6 := HO5.out
      obtain ⟨L, hL⟩ : ∃ L, (enc k ++ snapB 0 0 ops).length = L + 1 := ⟨_, (Nat.sub_add_cancel hpos).symm⟩
      have HBT := own_bts2 HO6 (fun y hy => by
        rw [List.mem_append] at hy
        rcases hy with hy | hy
        · exact enc_le _ _ hy
        · exact snapB_le _ _ _ _ hy)
      rw [hL] at HO6
      obtain ⟨g5, c5, rfl⟩ := own_some HO6
      have hbt := HBT g5 c5 (by rw [hL])
      have HEQ := Ai.Aside.mk (bequal_ok w5 g5 0 c5 g off cap n _ hbt (HBD.out.below HB5.out) (by rw [natI, List.length_map]; exact HN.out))
      have hLn : L + 1 = n := by rw [← hL]; exact HN.out
      rw [hLn]
      have cb5 : w5.cell? ⟨r, 1, none⟩ = some (.bool false) := by rw [HB5.out.cell HRL.out]; exact cb
      clear HBT HO6 hbt cb hpos hL
      go_wp2_with (first | (go_at_call 61; go_loud (refine HEQ.out.mono ?_; rintro e w6 ⟨rfl, hw⟩; have hw2 := hw.symm; clear hw; subst hw2)))
      go_ret2
      exact ⟨_, rfl, by rw [← HM.out]; exact own_base (own_below HO.out HB5.out) (by have := HRW.out; omega), HR.out.2.2.2.2.trans (HB5.out.mono HR.out.2.2.2.2.size)⟩
end Lo
end Go.Proofs.YtjmhkcfdmcjilaaGreat
