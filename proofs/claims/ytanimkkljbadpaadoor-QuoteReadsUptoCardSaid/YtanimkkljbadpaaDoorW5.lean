/- Walk: Quote. -/
import Derived.Test.YtanimkkljbadpaaDoorW4
set_option linter.unusedVariables false
set_option linter.unusedSimpArgs false
namespace Go.Proofs.YtanimkkljbadpaaDoor
open Go.Shelf Go.RowKit Q

abbrev Bld (B b : Nat) (acc : Bs) (w : World) : Prop := Lib.IsBuilderF 40 5 B b (Lib.byteCells acc) w
theorem bld_below {B b : Nat} {acc : Bs} {w w' : World} (h : Bld B b acc w) (hb : Below w.heap.size w w') : Bld B b acc w' := by
  have key : ∀ p, Lib.BuilderAtF 40 5 B b p (Lib.byteCells acc) w → Lib.BuilderAtF 40 5 B b p (Lib.byteCells acc) w' := by
    rintro p ⟨hB, v, hbk, ho, hne⟩
    refine ⟨hB, v, (hb.block b (Array.getElem?_eq_some_iff.1 hbk).1).trans hbk, ?_, hne⟩
    exact ho.kept (row := none) ⟨hb.os, hb.tape, hb.output, hb.size, fun i hi _ => hb.block i hi⟩ (by cases v.ownBlock <;> simp)
  exact h.elim (fun x => .inl (key _ x)) (fun x => .inr (key _ x))
theorem bld_lt {B b : Nat} {acc : Bs} {w : World} (h : Bld B b acc w) : b < w.heap.size := by
  rcases h with ⟨_, v, hb, _⟩ | ⟨_, v, hb, _⟩ <;> exact (Array.getElem?_eq_some_iff.1 hb).1
theorem bld_alloc {B b : Nat} {acc : Bs} {w : World} (h : Bld B b acc w) (o : Obj) : Bld B b acc (w.alloc o) := bld_below h ((Below.refl _ _).alloc (Nat.le_refl _) o)
theorem byteCells_append (a b : Bs) : Lib.byteCells (a ++ b) = Lib.byteCells a ++ Lib.byteCells b := by simp [Lib.byteCells]

theorem write_ok (B b : Nat) (acc t : Bs) (w : World) (h : Bld B b acc w) (hlen : acc.length + t.length ≤ 140737488355328) (hBw : B ≤ w.heap.size) :
    Calls Tryd.prog 21 #[.pointer (some ⟨b, 0, none⟩), .string (BA t)] w fun e w' => e = .returned (.tuple #[.int .i64 t.length, .nilIface]) ∧ Bld B b (acc ++ t) w' ∧ Below B w w' ∧ Lib.OthersKept 5 (some b) w w' := by
  refine (Tryd.writeString B b _ (BA t) w h (by rw [Lib.byteCells_length, BA_size]; exact hlen) hBw).mono ?_
  rintro e w' ⟨rfl, h1, h2, h3⟩
  refine ⟨by rw [BA_size], .inr ?_, h2, h3⟩
  rw [byteCells_append]
  exact h1

theorem tell_len (u : Bs) (h : Tok u) : (tell u).length ≤ 6 * u.length := by
  rcases h with ⟨v, h⟩ | ⟨b, rfl, hb⟩
  · have := kind_len h
    rw [tell_good h]
    unfold told
    repeat' split
    all_goals simp [hex2, hex4]
    all_goals omega
  · unfold tell; rw [if_pos hb]; simp [hex2]
theorem flat_tell_len (us : List Bs) (h : ∀ u ∈ us, Tok u) : (us.flatMap tell).length ≤ 6 * us.flatten.length := by
  induction us with
  | nil => simp
  | cons u us ih =>
    have h1 := tell_len u (h u (List.mem_cons_self ..))
    have h2 := ih (fun x hx => h x (List.mem_cons_of_mem _ hx))
    simp only [List.flatMap_cons, List.flatten_cons, List.length_append]
    omega
theorem quote_len (l : Bs) : (quote l).length ≤ 6 * l.length + 2 := by
  have := flat_tell_len (toks l) (toks_tok l)
  rw [toks_flatten] at this
  simp only [quote, List.length_cons, List.length_append, List.length_nil, body_flat]
  omega
theorem head_at (s : ByteArray) (i : Nat) (h : i < s.size) : (LS s).drop i = s[i] :: (LS s).drop (i + 1) := by
  have hl := LS_length s
  rw [List.drop_eq_getElem_cons (by omega)]
  congr 1

/-- In the midst of Quote. -/
structure Quo (w wr : World) (s : ByteArray) (b k pos : Nat) (acc : Bs) : Prop where
  it : wr.heap[k]? = some (.stringIter s pos)
  below : Below w.heap.size w wr
  tabs : Tabs w
  ge : w.heap.size ≤ k
  bld : Bld w.heap.size b acc wr
  ne : k ≠ b
theorem Quo.next {w wr : World} {s : ByteArray} {b k pos : Nat} {acc : Bs} (h : Quo w wr s b k pos acc) (pos' : Nat) : Quo w (wr.iterAt k s pos') s b k pos' acc :=
  ⟨Lib.iterAt_heap wr k s pos pos' h.it, Lib.below_iterAt h.below h.ge s pos', h.tabs, h.ge, h.bld.iterAt h.it pos', h.ne⟩
theorem Quo.step {w wr w1 : World} {s : ByteArray} {b k pos : Nat} {acc : Bs} (h : Quo w wr s b k pos acc) (hb : Below wr.heap.size wr w1) : Quo w w1 s b k pos acc :=
  ⟨(hb.block k (Array.getElem?_eq_some_iff.1 h.it).1).trans h.it, h.below.trans (hb.mono h.below.size), h.tabs, h.ge, bld_below h.bld hb, h.ne⟩
theorem Quo.put {w wr w1 : World} {s : ByteArray} {b k pos : Nat} {acc acc' : Bs} (h : Quo w wr s b k pos acc) (hb : Below w.heap.size wr w1) (hk : Lib.OthersKept 5 (some b) wr w1) (hn : Bld w.heap.size b acc' w1) : Quo w w1 s b k pos acc' :=
  ⟨hk.iter h.it h.ne, h.below.trans hb, h.tabs, h.ge, hn, h.ne⟩
theorem Quo.pos {w wr : World} {s : ByteArray} {b k pos : Nat} {acc : Bs} (h : Quo w wr s b k pos acc) : wr.iterPos k = pos := by simp [World.iterPos, h.it]
theorem Quo.tabs' {w wr : World} {s : ByteArray} {b k pos : Nat} {acc : Bs} (h : Quo w wr s b k pos acc) : Tabs wr := tabs_below h.tabs h.below

def QuotePost (s : ByteArray) (w : World) (e : Ending) (w' : World) : Prop := e = .returned (.string (BA (quote (LS s)))) ∧ Below w.heap.size w w'

set_option maxHeartbeats 1000000 in
set_option maxRecDepth 100000 in
theorem quote_ok (s : ByteArray) (w : World) (hT : Tabs w) (hs : s.size ≤ 17592186044416) : Calls Tryd.prog 11 #[.string s] w (QuotePost s w) := by
  have HT := Aside.mk hT
  have HL := Aside.mk (LS_length s)
  clear hT
  go_enter Tryd.func11, Tryd.ntmps11
  go_wp2_with fail
  refine (write_ok w.heap.size w.heap.size [] [34] _ (.inl (Lib.BuilderAtF.of (by rcases Lib.fresh_isBuilder 40 5 w with h | h; exact h; exact (by obtain ⟨_, v, hv, _⟩ := h; rw [heap_alloc_new] at hv; simp at hv)))) (by simp) (by simp)).mono ?_
  rintro e w1 ⟨rfl, hb1, hw1, hk1⟩
  have HQ0 : Aside (Quo w (w1.iter s 0) s w.heap.size w1.heap.size 0 ([] ++ [34])) := ⟨by
    have hbw := ((Below.refl w.heap.size w).alloc (Nat.le_refl _) (.cells #[.pointer none, .slice none 0 0] 40)).trans hw1
    exact ⟨World.iter_heap w1 s 0, hbw.alloc hbw.size _, HT.out, hbw.size, bld_alloc hb1 _, by have := bld_lt hb1; omega⟩⟩
  clear hb1 hw1 hk1
  go_wp2_with fail
  go_loopw [] (fun wr => ∃ (ps qs : List Bs), toks (LS s) = ps ++ qs ∧ Aside (Quo w wr s w.heap.size w1.heap.size ps.flatten.length (34 :: ps.flatMap tell))) (fun wr => s.size - wr.iterPos w1.heap.size)
  case atStart => exact ⟨[], toks (LS s), rfl, HQ0⟩
  case round =>
    obtain ⟨ps, qs, hpq, HQ⟩ := hrel
    generalize w1.heap.size = k at *
    have hpl := prefix_le hpq
    have htl := flat_tell_len ps (fun u hu => toks_tok (LS s) u (by rw [hpq]; exact List.mem_append_left _ hu))
    by_cases hp : ps.flatten.length < s.size
    · obtain ⟨u, qs', rfl, hu, hul, htok, hgood, hnext, hfl, hle⟩ := at_pos hpq (by rw [HL.out]; exact hp)
      have hnx : ∀ ty, (Instr.next (.pointer (some ⟨k, 0, none⟩)) true ty).run Tryd.prog wr = _ := fun ty => Lib.run_next_any_at wr k s ps.flatten.length ty HQ.out.it hp
      rw [decode_width s _ hp, hul] at hnx
      have HQ2 := Aside.mk (HQ.out.next (ps.flatten.length + u.length))
      have HW := Aside.mk (wrong_ok s ps.flatten.length _ HQ2.out.tabs' hp (by omega))
      have HM := Aside.mk (show u.length ≠ 0 by rcases htok with ⟨v, h⟩ | ⟨b, rfl, _⟩; exact (by have := kind_len h; omega); simp)
      have HP := Aside.mk HQ.out.pos
      have HLT := Aside.mk hp
      have HLEN : Aside ((34 :: ps.flatMap tell).length + (tell u).length ≤ 140737488355328) := ⟨by
        have h1 := tell_len u htok
        have h2 := tok_small htok
        simp only [List.length_cons]
        omega⟩
      have HTOK := Aside.mk htok
      have HGO : Aside (∀ w2 : World, Quo w w2 s w.heap.size k (ps.flatten.length + u.length) ((34 :: ps.flatMap tell) ++ tell u) → ∃ (ps' qs : List Bs), toks (LS s) = ps' ++ qs ∧ Aside (Quo w w2 s w.heap.size k ps'.flatten.length (34 :: ps'.flatMap tell))) :=
        ⟨fun w2 h => ⟨ps ++ [u], qs', hnext, by rw [← hfl]; exact ⟨by simpa using h⟩⟩⟩
      have HB : Aside (w.heap.size ≤ wr.heap.size) := ⟨HQ.out.below.size⟩
      have hhd := head_at s ps.flatten.length hp
      cases hgd : good u with
      | true =>
        have hne : ¬ (dec ((LS s).drop ps.flatten.length)).2 = 0 := hgood.1 hgd
        rw [decide_eq_false hne] at HW
        have hdd := decode_dec s _ hp
        rw [if_neg hne] at hdd
        have hkd := kind_of_dec hne
        have hen := enc_kind hkd
        have htu : Kind u (dec ((LS s).drop ps.flatten.length)).1 u.length := by
          have h1 := kind_take hkd
          have h2 : tokLen ((LS s).drop ps.flatten.length) = (dec ((LS s).drop ps.flatten.length)).2 := by unfold tokLen; rw [if_neg hne]
          rw [← h2, ← hu, hul] at h1
          exact h1
        have HTD := Aside.mk (fun W => told_ok (dec ((LS s).drop ps.flatten.length)).1 W hen.2.2.1 hen.2.2.2)
        rw [enc_tok htu, ← tell_good htu] at HTD
        have HDD : Aside ((Utf8.decode s ps.flatten.length).1 = (dec ((LS s).drop ps.flatten.length)).1) := ⟨by rw [show Utf8.decode s ps.flatten.length = _ from hdd]⟩
        rw [HDD.out] at hnx HW
        generalize (dec ((LS s).drop ps.flatten.length)).1 = v at *
        clear hgood hne hgd hpl htl hpq hu hul htok hnext hfl hle hhd hdd hkd hen htu HDD
        generalize ps.flatten.length = pos at *
        go_wp2_with (first | (go_at_call 22; refine HW.out.mono ?_; rintro e w2 ⟨rfl, hbw⟩; have HQ3 := Aside.mk (HQ2.out.step hbw); clear hbw) | (go_at_call 24; refine (HTD.out _).mono ?_; rintro e w3 ⟨rfl, rfl⟩))
        refine (write_ok w.heap.size w.heap.size _ (tell u) _ HQ3.out.bld HLEN.out HQ3.out.below.size).mono ?_
        rintro e w4 ⟨rfl, hb4, hw4, hk4⟩
        have HQ4 := Aside.mk (HQ3.out.put hw4 hk4 hb4)
        clear hb4 hw4 hk4
        go_wp2_with fail
        go_roundw
        case rel => exact HGO.out _ HQ4.out
        case measure =>
          have := HQ4.out.pos
          have := HP.out
          have := HLT.out
          have := HM.out
          omega
      | false =>
        have hne : (dec ((LS s).drop ps.flatten.length)).2 = 0 := by
          by_cases q : (dec ((LS s).drop ps.flatten.length)).2 = 0
          · exact q
          · rw [hgood.2 q] at hgd; exact absurd hgd (by simp)
        rw [decide_eq_true hne] at HW
        have hdd := decode_dec s _ hp
        rw [if_pos hne] at hdd
        have hub : u = [s[ps.flatten.length]] ∧ (dec [s[ps.flatten.length]]).2 = 0 := by
          rcases htok with ⟨v, h⟩ | ⟨b, rfl, hb⟩
          · exact absurd ((good_kind h).symm.trans hgd) (by decide)
          · have h1 : tokLen ((LS s).drop ps.flatten.length) = 1 := by rw [hul]; rfl
            rw [h1, hhd] at hu
            have hbb : b = s[ps.flatten.length] := List.head_eq_of_cons_eq (hu.trans (List.take_succ_cons ..))
            rw [hbb] at hb
            exact ⟨congrArg (fun x => [x]) hbb, hb⟩
        obtain ⟨hub, hb128⟩ := hub
        have ht : tell u = [92, 120] ++ nums 2 (s[ps.flatten.length]).toNat := by
          rw [hub, hex2_nums]; unfold tell; rw [if_pos hb128]; rfl
        have hlt256 := (s[ps.flatten.length]).toNat_lt
        have HN := Aside.mk (fun W => number_ok (s[ps.flatten.length]).toNat 2 W (by omega) (by omega))
        have hn2 : (BA [92, 120]).size + (BA (nums 2 (s[ps.flatten.length]).toNat)).size ≤ 9223372036854775807 := by rw [BA_size, BA_size, nums_length]; decide
        have hn3 : ¬ 9223372036854775807 < 2 + (BA (nums 2 (s[ps.flatten.length]).toNat)).size := by rw [BA_size, nums_length]; decide
        have HT2 := Aside.mk (show BA [92, 120] ++ BA (nums 2 (s[ps.flatten.length]).toNat) = BA (tell u) by rw [BA_append, ht])
        have hbyte : s[ps.flatten.length] = s[ps.flatten.length]'(by omega) := rfl
        clear hgood hne hgd hpl htl hpq hu hul htok hnext hfl hle hhd hub ht hb128 hdd hbyte hlt256
        generalize ps.flatten.length = pos at *
        generalize hbb : s[pos].toNat = bb at *
        have HBB : Aside (wrap32 ((s[pos].toNat : Nat) : Int) = (bb : Int)) := ⟨by have := (s[pos]).toNat_lt; rw [hbb] at this ⊢; unfold wrap32; omega⟩
        clear hbb
        generalize nums 2 bb = nn at *
        go_wp2_with (first | (go_at_call 22; refine HW.out.mono ?_; rintro e w2 ⟨rfl, hbw⟩; have HQ3 := Aside.mk (HQ2.out.step hbw); clear hbw) | (go_at_call 23; rw [HBB.out]; refine (HN.out _).mono ?_; rintro e w3 ⟨rfl, rfl⟩))
        refine (show Calls Tryd.prog 21 #[.pointer (some ⟨w.heap.size, 0, none⟩), .string (BA [92, 120] ++ BA nn)] _ _ from ?_)
        rw [HT2.out]
        refine (write_ok w.heap.size w.heap.size _ (tell u) _ HQ3.out.bld HLEN.out HQ3.out.below.size).mono ?_
        rintro e w4 ⟨rfl, hb4, hw4, hk4⟩
        have HQ4 := Aside.mk (HQ3.out.put hw4 hk4 hb4)
        clear hb4 hw4 hk4
        go_wp2_with fail
        go_roundw
        case rel => exact HGO.out _ HQ4.out
        case measure =>
          have := HQ4.out.pos
          have := HP.out
          have := HLT.out
          have := HM.out
          omega
    · obtain ⟨rfl, hps⟩ := at_end hpq (by rw [HL.out]; exact hp)
      have hnx : ∀ ty, (Instr.next (.pointer (some ⟨k, 0, none⟩)) true ty).run Tryd.prog wr = _ := fun ty => Lib.run_next_end_at wr k s ps.flatten.length ty HQ.out.it hp
      have HW := Aside.mk (write_ok w.heap.size w.heap.size _ [34] _ HQ.out.bld (by have := HL.out; simp only [List.length_cons, List.length_nil]; omega) HQ.out.below.size)
      have HPS : Aside ((34 :: ps.flatMap tell) ++ [34] = quote (LS s)) := ⟨by rw [hps]; simp [quote, body_flat]⟩
      clear hps hpq hpl htl
      generalize ps.flatten.length = pos at *
      go_wp2_with (go_at_call 21; refine HW.out.mono ?_; rintro e w4 ⟨rfl, hb4, hw4, hk4⟩; have HQ4 := Aside.mk (HQ.out.put hw4 hk4 hb4); clear hb4 hw4 hk4)
      refine (Tryd.Builder_String_any_k w.heap.size w.heap.size _ _ HQ4.out.bld HQ4.out.below.size).mono ?_
      rintro e w5 ⟨rfl, _, hb5, _⟩
      rw [HPS.out]
      have HP : Aside (QuotePost s w (.returned (.string (BA (quote (LS s))))) w5) := ⟨⟨rfl, HQ4.out.below.trans hb5⟩⟩
      clear hb5
      go_wp2_with fail
      go_ret
      exact HP.out
end Go.Proofs.YtanimkkljbadpaaDoor
