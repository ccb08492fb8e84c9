/-
  Walk of the codec: tag.Decode of a whole page.
-/
import Derived.Test.YtjmhkcfdmcjilaaGreatLpU
set_option linter.unusedVariables false
set_option linter.unusedSimpArgs false
namespace Go.Proofs.YtjmhkcfdmcjilaaGreat
namespace Lo
open Go.RowKit Ai Fi

theorem getI_le4 {v : Int} (h : U32 v) : getI (v % 256) (v / 256 % 256) (v / 65536 % 256) (v / 16777216) = v := by
  unfold getI; unfold U32 at h; omega

theorem enc_len {p : Pg} (h : p.pay.length = 32) : p.enc.length = 68 := by
  rw [Pg.enc, List.length_append, head_len p h]; simp [le4]

theorem enc_byte {p : Pg} (h : p.Ok) : ∀ x ∈ p.enc, 0 ≤ x ∧ x ≤ 255 := by
  intro x hx
  rw [Pg.enc, List.mem_append, List.mem_append] at hx
  rcases hx with hx | hx | hx
  · exact head_byte h x hx
  · exact le4_byte (crcF_range _ _) x hx
  · simp only [List.mem_cons, List.not_mem_nil, or_false] at hx
    omega

theorem enc_unclean {p : Pg} (h : p.Ok) : cnt 255 p.enc < 68 := by
  have e : p.enc = p.k :: (p.enc.drop 1) := by simp [Pg.enc, Pg.head]
  have hl := enc_len h.len
  have hk := h.k
  have h1 : cnt 255 p.enc = cnt 255 (p.enc.drop 1) := by
    conv => lhs; rw [e]
    rw [cnt, if_neg (by omega)]; omega
  have h2 := cnt_le 255 (p.enc.drop 1)
  rw [List.length_drop] at h2
  omega

theorem enc_tail {p : Pg} (h : p.pay.length = 32) : p.enc.drop 64 = [68, 79, 78, 69] := by
  have e : p.enc = (p.head ++ le4 (crcF 0 p.head)) ++ [68, 79, 78, 69] := by simp [Pg.enc]
  rw [e]
  exact List.drop_left' (by rw [List.length_append, head_len p h]; simp [le4])

theorem head_take {p : Pg} (h : p.pay.length = 32) : p.enc.take 60 = p.head := by
  rw [Pg.enc]; exact List.take_left' (head_len p h)

theorem enc_crc {p : Pg} (h : p.pay.length = 32) : (p.enc.drop 60).take 4 = le4 (crcF 0 p.head) := by
  rw [Pg.enc, List.drop_left' (head_len p h)]
  exact List.take_left' (by simp [le4])

/-- A number that stands at a place. -/
theorem get_at {off : Nat} (w : World) (g k len cap : Nat) (v : Int) (bs : List Int) (h : Bts w g off bs) (he : (bs.drop k).take 4 = le4 v) (hl : 4 ≤ len) (hv : U32 v) :
    Calls Tryz.prog 52 #[.slice (some ⟨g, off + k, none⟩) len cap] w fun e w' => e = .returned (.int .u32 v) ∧ w' = w := by
  have hat : ∀ j, j < 4 → bs[k + j]? = (le4 v)[j]? := fun j hj => by
    rw [← he, List.getElem?_take, if_pos hj, List.getElem?_drop]
  have h0 := h.2 k _ ((hat 0 (by omega)).trans rfl)
  have h1 := h.2 (k + 1) _ ((hat 1 (by omega)).trans rfl)
  have h2 := h.2 (k + 2) _ ((hat 2 (by omega)).trans rfl)
  have h3 := h.2 (k + 3) _ ((hat 3 (by omega)).trans rfl)
  refine (get52_ok w g (off + k) len cap _ _ _ _ h0.1 (by rw [Nat.add_assoc]; exact h1.1) (by rw [Nat.add_assoc]; exact h2.1) (by rw [Nat.add_assoc]; exact h3.1) hl h0.2 h1.2 h2.2 h3.2).mono ?_
  rintro e w' ⟨rfl, rfl⟩
  exact ⟨by rw [getI_le4 hv], rfl⟩

theorem enc_front (p : Pg) : p.enc[0]? = some p.k ∧ p.enc[1]? = some 0 ∧ p.enc[2]? = some 0 ∧ p.enc[3]? = some 0 := by
  simp [Pg.enc, Pg.head]

theorem pg_one (p : Pg) : ∀ v ∈ p.cells, v.oneCell' = true := by
  intro v hv
  simp only [Pg.cells, Pg.nums, byI, List.mem_cons, List.mem_append, List.mem_map] at hv
  rcases hv with rfl | ⟨x, _, rfl⟩ | ⟨x, _, rfl⟩ <;> rfl

theorem pg_len {p : Pg} (h : p.pay.length = 32) : p.cells.length = 39 := by simp [Pg.cells, Pg.nums, byI, h]

theorem pgSize : (Tryz.prog.info? 55).map (·.size) = some 39 := by kernel_rfl

theorem build55 (w : World) (k : Int) (x : Value) (hx : x = .int .i64 k) : (Instr.build 55 (#[(0, x)])).run Tryz.prog w = .ok (.agg ({ Pg.zero with k := k } : Pg).cells.toArray) w := by
  subst hx; kernel_rfl
theorem alloc55 (w : World) : (Instr.alloc 55 true (.tuple #[])).run Tryz.prog w = .ok (.pointer (some ⟨w.heap.size, 0, none⟩)) (w.alloc (.cells Pg.zero.cells.toArray 55)) := by kernel_rfl

/-- A page of which so many numbers are laid. -/
def Pg.part (p : Pg) (j : Nat) : Pg := ⟨p.k, if 0 < j then p.lba else 0, if 1 < j then p.seq else 0, if 2 < j then p.ep else 0, if 3 < j then p.gr else 0, if 4 < j then p.ix else 0, if 5 < j then p.tot else 0, List.replicate 32 0⟩

theorem index6p (w : World) (q : Nat) (j : Nat) (hj : j < 6) : (Instr.index 106 (.agg #[.pointer (some ⟨q, 1, none⟩), .pointer (some ⟨q, 2, none⟩), .pointer (some ⟨q, 3, none⟩), .pointer (some ⟨q, 4, none⟩), .pointer (some ⟨q, 5, none⟩), .pointer (some ⟨q, 6, none⟩)]) (.int .i64 (j : Int))).run Tryz.prog w = .ok (.pointer (some ⟨q, j + 1, none⟩)) w := by
  rcases j with _ | _ | _ | _ | _ | _ | j
  all_goals first | (exfalso; omega) | kernel_rfl

theorem enc_num (p : Pg) (j : Nat) (x : Int) (h : p.nums[j]? = some x) : (p.enc.drop (4 + 4 * j)).take 4 = le4 x := by
  rcases j with _ | _ | _ | _ | _ | _ | j
  · cases h; rfl
  · cases h; rfl
  · cases h; rfl
  · cases h; rfl
  · cases h; rfl
  · cases h; rfl
  · simp [Pg.nums] at h

theorem enc_pay {p : Pg} (h : p.pay.length = 32) : (p.enc.drop 28).take 32 = p.pay := by
  have e : p.enc = ([p.k, 0, 0, 0] ++ p.nums.flatMap le4) ++ (p.pay ++ (le4 (crcF 0 p.head) ++ [68, 79, 78, 69])) := by simp [Pg.enc, Pg.head]
  rw [e, List.drop_left' (by rfl)]
  exact List.take_left' h

theorem by_len (l : List Int) : (byI l).length = l.length := by simp [byI]

theorem part_full (p : Pg) (h : p.pay.length = 32) : splice (p.part 6).cells 7 (byI p.pay) = p.cells := by
  unfold splice
  have h1 : (p.part 6).cells.drop (7 + (byI p.pay).length) = [] := by
    apply List.drop_eq_nil_of_le
    rw [by_len, h]; exact Nat.le_refl _
  rw [h1, List.append_nil]
  rfl

def DecPost (w : World) (p : Pg) (e : Ending) (w' : World) : Prop := e = .returned (.tuple #[p.V, .int .i64 0]) ∧ Below w.heap.size w w'


set_option maxHeartbeats 4000000 in
set_option maxRecDepth 100000 in
theorem dec17_ok (w : World) (g off cap : Nat) (p : Pg) (hp : p.Ok) (h : Bts w g off p.enc) (hcap : 68 ≤ cap) :
    Calls Tryz.prog 17 #[.slice (some ⟨g, off, none⟩) 68 cap] w (DecPost w p) := by
  have HOK := Ai.Aside.mk hp
  have HB := Ai.Aside.mk h
  have HU := Ai.Aside.mk (enc_unclean hp)
  have HL := Ai.Aside.mk (enc_len hp.len)
  clear h hp
  go_enter Tryz.func17, Tryz.ntmps17
  go_upto_region 1 with (fail)
  have HZ := Ai.Aside.mk (show RowV (w.alloc (.cells Pg.zero.cells.toArray 55)) w.heap.size 55 Pg.zero.cells from RowV.new w _ 55)
  have HB1 := Ai.Aside.mk (HB.out.below ((Below.refl w.heap.size w).alloc (Nat.le_refl _) (.cells Pg.zero.cells.toArray 55)))
  have HW := Ai.Aside.mk ((Below.refl w.heap.size w).alloc (Nat.le_refl _) (.cells Pg.zero.cells.toArray 55))
  simp only [show Pg.zero.cells.toArray = #[Value.int IntKind.i64 0, Value.int IntKind.u32 0, Value.int IntKind.u32 0, Value.int IntKind.u32 0,
          Value.int IntKind.u32 0, Value.int IntKind.u32 0, Value.int IntKind.u32 0, Value.int IntKind.u8 0,
          Value.int IntKind.u8 0, Value.int IntKind.u8 0, Value.int IntKind.u8 0, Value.int IntKind.u8 0,
          Value.int IntKind.u8 0, Value.int IntKind.u8 0, Value.int IntKind.u8 0, Value.int IntKind.u8 0,
          Value.int IntKind.u8 0, Value.int IntKind.u8 0, Value.int IntKind.u8 0, Value.int IntKind.u8 0,
          Value.int IntKind.u8 0, Value.int IntKind.u8 0, Value.int IntKind.u8 0, Value.int IntKind.u8 0,
          Value.int IntKind.u8 0, Value.int IntKind.u8 0, Value.int IntKind.u8 0, Value.int IntKind.u8 0,
          Value.int IntKind.u8 0, Value.int IntKind.u8 0, Value.int IntKind.u8 0, Value.int IntKind.u8 0,
          Value.int IntKind.u8 0, Value.int IntKind.u8 0, Value.int IntKind.u8 0, Value.int IntKind.u8 0,
          Value.int IntKind.u8 0, Value.int IntKind.u8 0, Value.int IntKind.u8 0] from rfl] at HZ HB1 HW
  obtain ⟨r, hr⟩ : ∃ r, r = w.heap.size := ⟨_, rfl⟩
  rw [← hr] at HZ
  rw [← hr]
  have HR0 := Ai.Aside.mk hr
  clear hr HB
  generalize World.alloc w _ = w1 at HZ HB1 HW ⊢
  have HCL := Ai.Aside.mk (unclean_ok w1 g off cap p.enc HB1.out HL.out HU.out)
  have HST := Ai.Aside.mk (fun W (hW : Below w1.heap.size w1 W) => (show (convert 37 9 (.slice (some ⟨g, off + 64, none⟩) 4 (cap - 64))).run Tryz.prog W = .ok (.string { data := #[68, 79, 78, 69] }) W from run_str W g (off + 64) (cap - 64) [68, 79, 78, 69] (enc_tail HOK.out.len ▸ (HB1.out.below hW).sub 64)))
  go_upto_region 5 with (first | (go_at_call 51; go_loud (refine HCL.out.mono ?_; rintro e w2 ⟨rfl, hw⟩)))
  have HBL2 := (Below.refl w1.heap.size w1).alloc (Nat.le_refl _) (.cells #[.int .u8 255] 5)
  have HB2 := Ai.Aside.mk (HB1.out.below HBL2)
  have HZ2 := Ai.Aside.mk (HZ.out.below HBL2)
  have HW2 := Ai.Aside.mk (HW.out.trans (HBL2.mono HW.out.size))
  have HST2 := Ai.Aside.mk (HST.out _ HBL2)
  clear HB1 HZ HW HBL2 HCL HST
  generalize World.alloc w1 _ = w2 at HB2 HZ2 HW2 HST2 ⊢
  go_upto_region 7 with (first | (refine wpList_convert rfl (.tmp 18) 37 9 rfl _ _ rfl HST2.out ?_))
  have HC := Ai.Aside.mk (fun W (hW : Below w2.heap.size w2 W) => sum_ok W g off cap p.head (head_take HOK.out.len ▸ (HB2.out.below hW).take 60) (by rw [head_len p HOK.out.len]; omega))
  have hcr := crcF_range 0 p.head
  obtain ⟨cr, hcrE⟩ : ∃ cr, cr = crcF 0 p.head := ⟨_, rfl⟩
  have HGT := Ai.Aside.mk (fun W (hW : Below w2.heap.size w2 W) => get_at (off := off) W g 60 8 (cap - 60) cr p.enc (HB2.out.below hW) (hcrE ▸ enc_crc HOK.out.len) (by omega) (hcrE ▸ hcr))
  rw [head_len p HOK.out.len, ← hcrE] at HC
  clear hcrE hcr
  go_quiet ((first | (go_at_call 52; refine Calls.quiet_of_same (HGT.out _ (below_drewN (Below.refl _ _) _))) | (go_at_call 50; refine Calls.quiet_of_same (HC.out _ (below_drewN (Below.refl _ _) _)))))
  have HB3 := Ai.Aside.mk (HB2.out.below (below_drewN (Below.refl _ _) nq))
  have HZ3 := Ai.Aside.mk (HZ2.out.below (below_drewN (Below.refl _ _) nq))
  have HW3 := Ai.Aside.mk (below_drewN HW2.out nq)
  clear HB2 HZ2 HW2 HST2 HC HGT
  generalize World.drewN w2 nq = w3 at HB3 HZ3 HW3 ⊢
  obtain ⟨e0, e1, e2, e3⟩ := enc_front p
  have d0 := (HB3.out.2 0 _ e0).1
  have d1 := (HB3.out.2 1 _ e1).1
  have d2 := (HB3.out.2 2 _ e2).1
  have d3 := (HB3.out.2 3 _ e3).1
  simp only [Nat.add_zero] at d0
  have hk := HOK.out.k
  clear e0 e1 e2 e3
  go_upto_region 11 with (first | (go_at_call 48; go_loud (refine (kind3B_ok _ _ hk).mono ?_; rintro e w4 ⟨rfl, hw⟩; have hw2 := hw.symm; clear hw; subst hw2)))
  have hbuild := fun (x : Value) (hx : x = .int .i64 p.k) => build55 w3 p.k x hx
  have hone := pg_one ({ Pg.zero with k := p.k } : Pg)
  have hlen : Pg.zero.cells.length = ({ Pg.zero with k := p.k } : Pg).cells.length := rfl
  have hsz : (Tryz.prog.info? 55).map (·.size) = some ({ Pg.zero with k := p.k } : Pg).cells.length := pgSize
  obtain ⟨qs, hqs⟩ : ∃ qs, qs = ({ Pg.zero with k := p.k } : Pg).cells := ⟨_, rfl⟩
  rw [← hqs] at hbuild hone hlen hsz
  have HBU := Ai.Aside.mk (And.intro hbuild (And.intro hone (And.intro hlen hsz)))
  have HQS := Ai.Aside.mk hqs
  clear hbuild hone hlen hsz hqs
  go_upto_region 12 with (first | ((with_reducible refine wpList_build rfl 55 _ rfl (.agg qs.toArray) ?_ ?_); (exact HBU.out.1 _ (by kernel_rfl))) | ((with_reducible refine wpList_alloc_row rfl 55 rfl _ (alloc55 w3) ?_); intro w4 hrow hbel; have HQ := Ai.Aside.mk hrow; have HBL := Ai.Aside.mk hbel; clear hrow hbel) | ((with_reducible refine wpList_store_row rfl 55 _ _ rfl w3.heap.size qs _ ?_ ?_ HQ.out HBU.out.2.2.1 HBU.out.2.2.2 HBU.out.2.1 ?_); (kernel_rfl); (kernel_rfl); intro w5 hrow hmod; have HQ5 := Ai.Aside.mk hrow; have HM5 := Ai.Aside.mk hmod; clear hrow hmod))
  obtain ⟨q, hq⟩ : ∃ q, q = w3.heap.size := ⟨_, rfl⟩
  rw [← hq] at HQ5 HM5 HQ
  have HNE := Ai.Aside.mk (show g ≠ q ∧ r ≠ q ∧ w.heap.size ≤ q from ⟨by have := HB3.out.1; omega, by have := HZ3.out.lt; omega, by have := HW3.out.size; omega⟩)
  have HB5 := Ai.Aside.mk ((HB3.out.below HBL.out).mod HM5.out HNE.out.1)
  have HZ5 := Ai.Aside.mk ((HZ3.out.below HBL.out).mod HM5.out HNE.out.2.1)
  have HW5 := Ai.Aside.mk (HM5.out.below (HW3.out.trans (HBL.out.mono HW3.out.size)) (Nat.le_trans HW3.out.size HBL.out.size) HNE.out.2.2)
  have HQ6 := Ai.Aside.mk (show RowV w5 q 55 (p.part 0).cells by have h := HQ5.out; rw [HQS.out] at h; exact h)
  clear HQ5 HM5 HB3 HZ3 HW3 HBL HQ HBU HQS d0 d1 d2 d3
  rw [← hq]
  clear hq
  go_upto_region 13 with (fail)
  go_loopw [69] (fun v69 wr => ∃ (j : Nat), j ≤ 6 ∧ v69 = .int .i64 j ∧ Ai.Aside (RowV wr q 55 (p.part j).cells ∧ Bts wr g off p.enc ∧ RowV wr r 55 Pg.zero.cells ∧ Below w.heap.size w wr)) (fun v69 _ => 6 - (intOf v69).toNat)
  case atStart => exact ⟨0, by omega, rfl, ⟨HQ6.out, HB5.out, HZ5.out, HW5.out⟩⟩
  case round =>
    obtain ⟨j, hj, rfl, HR⟩ := hrel
    clear HQ6 HB5 HZ5 HW5
    match j, hj with
    | 0, _ =>
      have HC := Ai.Aside.mk (get_at (off := off) wr g 4 64 (cap - 4) p.lba p.enc HR.out.2.1 (enc_num p 0 p.lba rfl) (by omega) HOK.out.lba)
      have HS := Ai.Aside.mk (HR.out.1.set 1 (.int .u32 p.lba))
      have hu := HR.out.1.cell (i := 1) (x := .int .u32 0) (by rfl)
      have hfz := HR.out.1.fr 1
      go_wp2_with (first | ((with_reducible refine wpList_index rfl _ _ 106 rfl _ _ (.pointer (some ⟨q, 1, none⟩)) ?_ ?_ (index6p wr q 0 (by omega)) ?_); (kernel_rfl); (kernel_rfl)) | (go_at_call 52; go_loud (refine HC.out.mono ?_; rintro e w6 ⟨rfl, hw⟩; have hw2 := hw.symm; clear hw; subst hw2)))
      go_roundw
      case rel => exact ⟨1, by omega, by go_num, ⟨by simpa [Pg.part, Pg.cells, Pg.nums] using HS.out, HR.out.2.1.mod (mod_set _ _ _ _) HNE.out.1, HR.out.2.2.1.mod (mod_set _ _ _ _) HNE.out.2.1, (mod_set _ _ _ _).below HR.out.2.2.2 HR.out.2.2.2.size HNE.out.2.2⟩⟩
      case measure => simp [intOf]
    | 1, _ =>
      have HC := Ai.Aside.mk (get_at (off := off) wr g 8 60 (cap - 8) p.seq p.enc HR.out.2.1 (enc_num p 1 p.seq rfl) (by omega) HOK.out.seq)
      have HS := Ai.Aside.mk (HR.out.1.set 2 (.int .u32 p.seq))
      have hu := HR.out.1.cell (i := 2) (x := .int .u32 0) (by rfl)
      have hfz := HR.out.1.fr 2
      go_wp2_with (first | ((with_reducible refine wpList_index rfl _ _ 106 rfl _ _ (.pointer (some ⟨q, 2, none⟩)) ?_ ?_ (index6p wr q 1 (by omega)) ?_); (kernel_rfl); (kernel_rfl)) | (go_at_call 52; go_loud (refine HC.out.mono ?_; rintro e w6 ⟨rfl, hw⟩; have hw2 := hw.symm; clear hw; subst hw2)))
      go_roundw
      case rel => exact ⟨2, by omega, by go_num, ⟨by simpa [Pg.part, Pg.cells, Pg.nums] using HS.out, HR.out.2.1.mod (mod_set _ _ _ _) HNE.out.1, HR.out.2.2.1.mod (mod_set _ _ _ _) HNE.out.2.1, (mod_set _ _ _ _).below HR.out.2.2.2 HR.out.2.2.2.size HNE.out.2.2⟩⟩
      case measure => simp [intOf]
    | 2, _ =>
      have HC := Ai.Aside.mk (get_at (off := off) wr g 12 56 (cap - 12) p.ep p.enc HR.out.2.1 (enc_num p 2 p.ep rfl) (by omega) HOK.out.ep)
      have HS := Ai.Aside.mk (HR.out.1.set 3 (.int .u32 p.ep))
      have hu := HR.out.1.cell (i := 3) (x := .int .u32 0) (by rfl)
      have hfz := HR.out.1.fr 3
      go_wp2_with (first | ((with_reducible refine wpList_index rfl _ _ 106 rfl _ _ (.pointer (some ⟨q, 3, none⟩)) ?_ ?_ (index6p wr q 2 (by omega)) ?_); (kernel_rfl); (kernel_rfl)) | (go_at_call 52; go_loud (refine HC.out.mono ?_; rintro e w6 ⟨rfl, hw⟩; have hw2 := hw.symm; clear hw; subst hw2)))
      go_roundw
      case rel => exact ⟨3, by omega, by go_num, ⟨by simpa [Pg.part, Pg.cells, Pg.nums] using HS.out, HR.out.2.1.mod (mod_set _ _ _ _) HNE.out.1, HR.out.2.2.1.mod (mod_set _ _ _ _) HNE.out.2.1, (mod_set _ _ _ _).below HR.out.2.2.2 HR.out.2.2.2.size HNE.out.2.2⟩⟩
      case measure => simp [intOf]
    | 3, _ =>
      have HC := Ai.Aside.mk (get_at (off := off) wr g 16 52 (cap - 16) p.gr p.enc HR.out.2.1 (enc_num p 3 p.gr rfl) (by omega) HOK.out.gr)
      have HS := Ai.Aside.mk (HR.out.1.set 4 (.int .u32 p.gr))
      have hu := HR.out.1.cell (i := 4) (x := .int .u32 0) (by rfl)
      have hfz := HR.out.1.fr 4
      go_wp2_with (first | ((with_reducible refine wpList_index rfl _ _ 106 rfl _ _ (.pointer (some ⟨q, 4, none⟩)) ?_ ?_ (index6p wr q 3 (by omega)) ?_); (kernel_rfl); (kernel_rfl)) | (go_at_call 52; go_loud (refine HC.out.mono ?_; rintro e w6 ⟨rfl, hw⟩; have hw2 := hw.symm; clear hw; subst hw2)))
      go_roundw
      case rel => exact ⟨4, by omega, by go_num, ⟨by simpa [Pg.part, Pg.cells, Pg.nums] using HS.out, HR.out.2.1.mod (mod_set _ _ _ _) HNE.out.1, HR.out.2.2.1.mod (mod_set _ _ _ _) HNE.out.2.1, (mod_set _ _ _ _).below HR.out.2.2.2 HR.out.2.2.2.size HNE.out.2.2⟩⟩
      case measure => simp [intOf]
    | 4, _ =>
      have HC := Ai.Aside.mk (get_at (off := off) wr g 20 48 (cap - 20) p.ix p.enc HR.out.2.1 (enc_num p 4 p.ix rfl) (by omega) HOK.out.ix)
      have HS := Ai.Aside.mk (HR.out.1.set 5 (.int .u32 p.ix))
      have hu := HR.out.1.cell (i := 5) (x := .int .u32 0) (by rfl)
      have hfz := HR.out.1.fr 5
      go_wp2_with (first | ((with_reducible refine wpList_index rfl _ _ 106 rfl _ _ (.pointer (some ⟨q, 5, none⟩)) ?_ ?_ (index6p wr q 4 (by omega)) ?_); (kernel_rfl); (kernel_rfl)) | (go_at_call 52; go_loud (refine HC.out.mono ?_; rintro e w6 ⟨rfl, hw⟩; have hw2 := hw.symm; clear hw; subst hw2)))
      go_roundw
      case rel => exact ⟨5, by omega, by go_num, ⟨by simpa [Pg.part, Pg.cells, Pg.nums] using HS.out, HR.out.2.1.mod (mod_set _ _ _ _) HNE.out.1, HR.out.2.2.1.mod (mod_set _ _ _ _) HNE.out.2.1, (mod_set _ _ _ _).below HR.out.2.2.2 HR.out.2.2.2.size HNE.out.2.2⟩⟩
      case measure => simp [intOf]
    | 5, _ =>
      have HC := Ai.Aside.mk (get_at (off := off) wr g 24 44 (cap - 24) p.tot p.enc HR.out.2.1 (enc_num p 5 p.tot rfl) (by omega) HOK.out.tot)
      have HS := Ai.Aside.mk (HR.out.1.set 6 (.int .u32 p.tot))
      have hu := HR.out.1.cell (i := 6) (x := .int .u32 0) (by rfl)
      have hfz := HR.out.1.fr 6
      go_wp2_with (first | ((with_reducible refine wpList_index rfl _ _ 106 rfl _ _ (.pointer (some ⟨q, 6, none⟩)) ?_ ?_ (index6p wr q 5 (by omega)) ?_); (kernel_rfl); (kernel_rfl)) | (go_at_call 52; go_loud (refine HC.out.mono ?_; rintro e w6 ⟨rfl, hw⟩; have hw2 := hw.symm; clear hw; subst hw2)))
      go_roundw
      case rel => exact ⟨6, by omega, by go_num, ⟨by simpa [Pg.part, Pg.cells, Pg.nums] using HS.out, HR.out.2.1.mod (mod_set _ _ _ _) HNE.out.1, HR.out.2.2.1.mod (mod_set _ _ _ _) HNE.out.2.1, (mod_set _ _ _ _).below HR.out.2.2.2 HR.out.2.2.2.size HNE.out.2.2⟩⟩
      case measure => simp [intOf]
    | 6, _ =>
      have hpl := HOK.out.len
      have HSRC := Ai.Aside.mk (show Bts wr.drew g (off + 28) p.pay from enc_pay hpl ▸ (HR.out.2.1.sub 28).take 32)
      have HSP := Ai.Aside.mk (part_full p hpl)
      have hbl := by_len p.pay
      rw [hpl] at hbl
      have h60 : (60 : Int) ≤ (cap : Int) := by omega
      have hc28 : ¬ cap = 28 := by omega
      go_upto_region 17 with (fail)
      go_region_law (refine step_copy_rowV rfl (.tmp 83) (.tmp 85) 37 37 rfl 5 Tryz.underlying37 byteSize q 7 32 32 32 (cap - 28) ⟨g, off + 28, none⟩ rfl rfl 55 (p.part 6).cells (byI p.pay) HR.out.1 (by rw [hbl]; rfl) HSRC.out.src (by rw [hbl]; exact Nat.le_refl _) (by_one _) ?_; intro w6 hm6 hr6)
      have HP6 := Ai.Aside.mk (show RowV w6 q 55 p.cells by rw [← HSP.out]; exact hr6)
      have HZ6 := Ai.Aside.mk ((show RowV wr.drew r 55 Pg.zero.cells from HR.out.2.2.1).mod hm6 HNE.out.2.1)
      have HW6 := Ai.Aside.mk (hm6.below (below_drew HR.out.2.2.2) HR.out.2.2.2.size HNE.out.2.2)
      have HL := Ai.Aside.mk (show Pg.zero.cells.length = p.cells.length by rw [pg_len hpl]; rfl)
      have HS := Ai.Aside.mk (show (Tryz.prog.info? 55).map (·.size) = some p.cells.length by rw [pg_len hpl]; exact pgSize)
      have HO1 := Ai.Aside.mk (pg_one p)
      clear hm6 hr6 HSRC HSP HR hbl
      have HPV := Ai.Aside.mk (show p.V = .agg p.cells.toArray from rfl)
      generalize p.cells = vs at *
      go_wp2_with (first | ((with_reducible refine wpList_load_mid rfl 55 _ rfl q 0 ?_ vs _ HP6.out.range Tryz.underlying55 ?_ HS.out ?_); (kernel_rfl); (rfl)) | ((with_reducible refine wpList_store_row rfl 55 _ _ rfl r vs _ ?_ ?_ HZ6.out HL.out HS.out HO1.out ?_); (kernel_rfl); (kernel_rfl); intro w7 hrow hmod; have HR7 := Ai.Aside.mk hrow; have HM7 := Ai.Aside.mk hmod; clear hrow hmod))
      have HW7 := Ai.Aside.mk (HM7.out.below HW6.out HW6.out.size (show w.heap.size ≤ r by rw [HR0.out]; exact Nat.le_refl _))
      refine bodyPost_ret (res_cell_tmp (p := 2) (q := 3) (ty := 55) rfl _ _ r vs _ (by kernel_rfl) HR7.out.range Tryz.underlying55 rfl HS.out) (by kernel_rfl) ?_
      refine ⟨?_, HW7.out⟩
      rw [HPV.out]
      kernel_rfl
end Lo
end Go.Proofs.YtjmhkcfdmcjilaaGreat
