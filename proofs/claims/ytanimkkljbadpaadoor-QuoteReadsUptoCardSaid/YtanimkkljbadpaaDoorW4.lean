/- Walk: Cut. -/
import Derived.Test.YtanimkkljbadpaaDoorW3
set_option linter.unusedVariables false
set_option linter.unusedSimpArgs false
namespace Go.Proofs.YtanimkkljbadpaaDoor
open Go.Shelf Go.RowKit Q

theorem runeLen_kind {l : Bs} {v n : Nat} (h : Kind l v n) : Lib.runeLen (v : Int) = n := by
  have hq := (enc_kind h).2.2
  unfold Lib.runeLen
  cases h with
  | one b0 t h => rw [if_neg (by omega), if_pos (by omega)]; rfl
  | two b0 b1 t h h1 =>
    rw [isCont_iff] at h1
    have hv : v2 b0.toNat b1 = 64 * (b0.toNat - 192) + (b1.toNat - 128) := rfl
    rw [if_neg (by omega), if_neg (by omega), if_pos (by omega)]; rfl
  | three b0 b1 b2 t h h1 h2 hh =>
    rw [isCont_iff] at h1 h2
    have hv : v3 b0.toNat b1 b2 = 64 * (64 * (b0.toNat - 224) + (b1.toNat - 128)) + (b2.toNat - 128) := rfl
    rw [if_neg (by omega), if_neg (by omega), if_neg (by omega), if_neg (by omega), if_pos (by omega)]; rfl
  | four b0 b1 b2 b3 t h h1 h2 h3 hh =>
    rw [isCont_iff] at h1 h2 h3
    have hv : v4 b0.toNat b1 b2 b3 = 64 * (64 * (64 * (b0.toNat - 240) + (b1.toNat - 128)) + (b2.toNat - 128)) + (b3.toNat - 128) := rfl
    rw [if_neg (by omega), if_neg (by omega), if_neg (by omega), if_neg (by omega), if_neg (by omega), if_pos (by omega)]; rfl

def CutPost (s : ByteArray) (n : Int) (w : World) (e : Ending) (w' : World) : Prop :=
  e = .returned (.string (s.extract 0 (cutLen (LS s) n))) ∧ Below w.heap.size w w'

set_option maxHeartbeats 1000000 in
set_option maxRecDepth 100000 in
theorem cut_ok (s : ByteArray) (n : Int) (w : World) (hT : Tabs w) (hs : s.size ≤ 140737488355328) : Calls Tryd.prog 12 #[.string s, .int .i64 n] w (CutPost s n w) := by
  have HT := Aside.mk hT
  have hL := LS_length s
  have HL := Aside.mk hL
  clear hT hL
  go_enter Tryd.func12, Tryd.ntmps12
  go_wp2_with fail
  go_loopw [5] (fun v5 wr => ∃ (ps qs : List Bs), toks (LS s) = ps ++ qs ∧ v5 = .int .i64 ps.flatten.length ∧ Aside (At w wr s w.heap.size ps.flatten.length ∧ cutLen (LS s) n = cutT qs ps.flatten.length n)) (fun _ wr => s.size - wr.iterPos w.heap.size)
  case atStart =>
    refine ⟨[], toks (LS s), rfl, rfl, ⟨⟨?_, (Below.refl _ _).alloc (Nat.le_refl _) _, HT.out, Nat.le_refl _⟩, rfl⟩⟩
    have := World.iter_heap w s 0
    simpa using this
  case round =>
    obtain ⟨ps, qs, hpq, rfl, HAC⟩ := hrel
    have HA := Aside.mk HAC.out.1
    have HC := Aside.mk HAC.out.2
    clear HAC
    have hpl := prefix_le hpq
    by_cases hp : ps.flatten.length < s.size
    · obtain ⟨u, qs', rfl, hu, hul, htok, hgood, hnext, hfl, hle⟩ := at_pos hpq (by rw [HL.out]; exact hp)
      have hnx : ∀ ty, (Instr.next (.pointer (some ⟨w.heap.size, 0, none⟩)) true ty).run Tryd.prog wr = _ := fun ty => Lib.run_next_any_at wr w.heap.size s ps.flatten.length ty HA.out.it hp
      have HRL : Aside ((dec ((LS s).drop ps.flatten.length)).2 ≠ 0 → Lib.runeLen ((Utf8.decode s ps.flatten.length).1 : Int) = u.length) := ⟨fun h => by
        rw [decode_dec s _ hp, if_neg h, runeLen_kind (kind_of_dec h), ← hul]
        unfold tokLen; rw [if_neg h]⟩
      rw [decode_width s _ hp, hul] at hnx
      have HA2 := Aside.mk (HA.out.next (ps.flatten.length + u.length))
      have HW := Aside.mk (wrong_ok s ps.flatten.length _ HA2.out.tabs' hp (by omega))
      have HN := Aside.mk hnext
      have HF := Aside.mk hfl
      have hu4 : u.length ≤ 4 := tok_small htok
      have HM := Aside.mk (show u.length ≠ 0 by rcases htok with ⟨v, h⟩ | ⟨b, rfl, _⟩; exact (by have := kind_len h; omega); simp)
      have HB1 : Aside ((dec ((LS s).drop ps.flatten.length)).2 = 0 → u.length = 1) := ⟨fun h => by rw [← hul]; unfold tokLen; rw [if_pos h]⟩
      have HPL := Aside.mk hle
      have HP := Aside.mk HA.out.pos
      have HLT := Aside.mk hp
      have HC' : Aside (cutLen (LS s) n = if n < (ps.flatten.length : Int) + u.length then ps.flatten.length else cutT qs' (ps.flatten.length + u.length) n) := ⟨HC.out⟩
      clear hnext hfl hu hul htok hpq hle hgood hpl HC
      have hpb : ps.flatten.length < 140737488355328 := by omega
      generalize (Utf8.decode s ps.flatten.length).1 = rr at *
      have HE : Aside (∀ w1 : World, n < (ps.flatten.length : Int) + u.length → Below w.heap.size w w1 → CutPost s n w (.returned (.string (s.extract 0 ps.flatten.length))) w1) := ⟨fun w1 h hb => ⟨by rw [HC'.out, if_pos h], hb⟩⟩
      have HG : Aside (∀ w1 : World, ¬ n < (ps.flatten.length : Int) + u.length → At w w1 s w.heap.size (ps.flatten.length + u.length) → ∃ (ps' qs : List Bs), toks (LS s) = ps' ++ qs ∧ (.int .i64 ((ps.flatten.length : Int) + u.length) : Value) = .int .i64 ps'.flatten.length ∧ Aside (At w w1 s w.heap.size ps'.flatten.length ∧ cutLen (LS s) n = cutT qs ps'.flatten.length n)) :=
        ⟨fun w1 h ha => ⟨ps ++ [u], qs', HN.out, by rw [← HF.out]; go_num, by rw [← HF.out]; exact ⟨ha, by rw [HC'.out, if_neg h]⟩⟩⟩
      clear HC' HN HF
      generalize ps.flatten.length = pos at *
      generalize u.length = ul at *
      by_cases hbad : (dec ((LS s).drop pos)).2 = 0
      · rw [decide_eq_true hbad] at HW
        have hul1 := HB1.out hbad
        subst hul1
        clear hbad HB1 HRL
        by_cases hn : n < (pos : Int) + (1 : Nat)
        · have HNN := Aside.mk hn
          have hn' : n < (pos : Int) + 1 := hn
          clear hn
          go_wp2_with (go_at_call 22; refine HW.out.mono ?_; rintro e w1 ⟨rfl, hbw⟩)
          go_ret
          exact HE.out _ HNN.out ((HA2.out.step hbw).below)
        · have HNN := Aside.mk hn
          have hn' : ¬ n < (pos : Int) + 1 := hn
          clear hn
          go_wp2_with (go_at_call 22; refine HW.out.mono ?_; rintro e w1 ⟨rfl, hbw⟩)
          go_roundw
          case rel => exact HG.out _ HNN.out (HA2.out.step hbw)
          case measure =>
            have := (HA2.out.step hbw).pos
            have := HP.out
            have := HLT.out
            omega
      · rw [decide_eq_false hbad] at HW
        have hrl := HRL.out hbad
        have HRL' := Aside.mk (Tryd.utf8_RuneLen (rr : Int))
        rw [hrl] at HRL'
        clear hbad HB1 HRL hrl
        by_cases hn : n < (pos : Int) + ul
        · have HNN := Aside.mk hn
          go_wp2_with (first | (go_at_call 22; refine HW.out.mono ?_; rintro e w1 ⟨rfl, hbw⟩; have HBW := Aside.mk hbw; clear hbw) | (go_at_call 25; refine (HRL'.out _).mono ?_; rintro e w2 ⟨rfl, rfl⟩))
          go_ret
          exact HE.out _ HNN.out ((HA2.out.step HBW.out).below)
        · have HNN := Aside.mk hn
          go_wp2_with (first | (go_at_call 22; refine HW.out.mono ?_; rintro e w1 ⟨rfl, hbw⟩; have HBW := Aside.mk hbw; clear hbw) | (go_at_call 25; refine (HRL'.out _).mono ?_; rintro e w2 ⟨rfl, rfl⟩))
          go_roundw
          case rel => exact HG.out _ HNN.out (HA2.out.step HBW.out)
          case measure =>
            have := (HA2.out.step HBW.out).pos
            have := HP.out
            have := HLT.out
            have := HM.out
            omega
    · obtain ⟨rfl, hps⟩ := at_end hpq (by rw [HL.out]; exact hp)
      have hnx : ∀ ty, (Instr.next (.pointer (some ⟨w.heap.size, 0, none⟩)) true ty).run Tryd.prog wr = _ := fun ty => Lib.run_next_end_at wr w.heap.size s ps.flatten.length ty HA.out.it hp
      have HPP : Aside (CutPost s n w (.returned (.string (s.extract 0 ps.flatten.length))) wr) := ⟨by rw [HC.out]; rfl, HA.out.below⟩
      have hpp : ps.flatten.length ≤ s.size := by rw [← HL.out]; exact hpl.2
      clear hps hpq hpl HC
      generalize ps.flatten.length = pos at *
      go_wp2_with fail
      go_ret
      exact HPP.out
end Go.Proofs.YtanimkkljbadpaaDoor
