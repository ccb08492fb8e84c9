/- Walk: Read. -/
import Derived.Test.YtanimkkljbadpaaDoorW7
set_option linter.unusedVariables false
set_option linter.unusedSimpArgs false
namespace Go.Proofs.YtanimkkljbadpaaDoor
open Go.Shelf Go.RowKit Q

def readP (T : Bs) : Option (Bs × Nat) := readG tokLen eP T
def readV (o : Option (Bs × Nat)) : Value := match o with
  | some (a, n) => .tuple #[.string (BA a), .int .i64 n, .int .i64 0]
  | none => .tuple #[.string (BA []), .int .i64 0, .int .i64 3]
def ReadPost (s : ByteArray) (w : World) (e : Ending) (w' : World) : Prop := e = .returned (readV (readP (LS s))) ∧ Below w.heap.size w w'

theorem enc_len (v : Nat) : (enc v).length ≤ 4 ∧ (v < 65536 → (enc v).length ≤ 3) := by
  unfold enc
  repeat' split
  all_goals simp
  omega
theorem eP_len (v : Nat) (h : v < 65536) : (eP v).length ≤ 3 := by
  unfold eP
  split
  · simp
  · exact (enc_len v).2 h
theorem one_len (l : Bs) : (oneP l).1.length ≤ (oneP l).2 ∧ (oneP l).2 ≤ 6 := by
  unfold oneP oneG
  have h4 := tokLen_le4
  split
  · simp
  · split
    · rename_i c r _
      have := h4 (c :: r)
      simp only [List.length_take]; omega
    · split
      · simp
      · rename_i c r
        repeat' split
        all_goals try simp
        all_goals (rename_i v hv; have := undigs_bound _ _ _ _ hv; exact Nat.le_trans (eP_len v (by omega)) (by omega))

theorem rdF_succ (f : Nat) (T acc : Bs) (i : Nat) : rdF tokLen eP (f + 1) T acc i = if i < T.length then
      if (T.getD i 0).toNat = 34 then (if quote acc = T.take (i + 1) then some (acc, i + 1) else none)
      else if (oneP (T.drop i)).2 = 0 then none else rdF tokLen eP f T (acc ++ (oneP (T.drop i)).1) (i + (oneP (T.drop i)).2)
    else none := rfl
theorem eq_BA (a b : ByteArray) (d : Bool) (h : d = decide (LS a = LS b)) : (a.toList == b.toList) = d := by
  rw [ByteArray.toList_eq, ByteArray.toList_eq, h]
  by_cases e : LS a = LS b
  · rw [decide_eq_true e, beq_iff_eq]; exact e
  · rw [decide_eq_false e, beq_eq_false_iff_ne]; exact e
structure Rd (w wr : World) (acc : Bs) : Prop where
  below : Below w.heap.size w wr
  bld : Bld w.heap.size w.heap.size acc wr
  tabs : Tabs w
theorem Rd.tabs' {w wr : World} {acc : Bs} (h : Rd w wr acc) : Tabs wr := tabs_below h.tabs h.below
theorem Rd.step {w wr w1 : World} {acc : Bs} (h : Rd w wr acc) (hb : Below wr.heap.size wr w1) : Rd w w1 acc := ⟨h.below.trans (hb.mono h.below.size), bld_below h.bld hb, h.tabs⟩

theorem prefix_one (s : ByteArray) : Lib.hasPrefix (LS s) [34] = decide (LS s ≠ [] ∧ ((LS s).headD 0).toNat = 34) := by
  cases h : LS s with
  | nil => rfl
  | cons c r =>
    have : Lib.hasPrefix (c :: r) [34] = (34 == c) := by simp [Lib.hasPrefix, List.isPrefixOf]
    rw [this]
    by_cases e : c = 34
    · subst e; rfl
    · have h1 : ((34 : UInt8) == c) = false := beq_eq_false_iff_ne.2 (fun h => e h.symm)
      rw [h1]
      have h2 : ¬ c.toNat = 34 := fun h => e (by have := toNat_ne h; simpa using this)
      simp [h2]

set_option maxHeartbeats 1000000 in
set_option maxRecDepth 100000 in
theorem read_ok (s : ByteArray) (w : World) (hT : Tabs w) (hs : s.size ≤ 1099511627776) : Calls Tryd.prog 10 #[.string s] w (ReadPost s w) := by
  have HT := Aside.mk hT
  have HL := Aside.mk (LS_length s)
  have HP := Aside.mk (Tryd.strings_HasPrefix s ⟨#[34]⟩ w)
  have hpr := prefix_one s
  by_cases hq : LS s ≠ [] ∧ ((LS s).headD 0).toNat = 34
  · rw [decide_eq_true hq] at hpr
    have HR0 : Aside (readP (LS s) = rdF tokLen eP (LS s).length (LS s) [] 1) := ⟨by unfold readP readG; rw [if_pos hq]⟩
    rw [show (⟨#[34]⟩ : ByteArray).data.toList = [34] from rfl, hpr] at HP
    clear hT hpr hq
    go_enter Tryd.func10, Tryd.ntmps10
    go_wp2_with (go_at_call 18; refine HP.out.mono ?_; rintro e w1 ⟨rfl, hw⟩; have hw := hw.symm; subst hw)
    go_loopw [6] (fun v6 wr => ∃ (i f : Nat) (acc : Bs), v6 = .int .i64 i ∧ Aside (readP (LS s) = rdF tokLen eP f (LS s) acc i ∧ s.size < f + i ∧ acc.length ≤ i) ∧ i ≤ s.size + 6 ∧ Aside (Rd w wr acc)) (fun v6 _ => s.size - (intOf v6).toNat)
    case atStart =>
      refine ⟨1, (LS s).length, [], rfl, ⟨HR0.out, by rw [HL.out]; omega, by simp⟩, by omega, ⟨?_, ?_, HT.out⟩⟩
      · exact (Below.refl w.heap.size w).alloc (Nat.le_refl _) _
      · exact .inl (Lib.BuilderAtF.of (by rcases Lib.fresh_isBuilder 40 5 w with h | h; exact h; exact (by obtain ⟨_, v, hv, _⟩ := h; rw [heap_alloc_new] at hv; simp at hv)))
    case round =>
      obtain ⟨i, f, acc, rfl, HI, hi6, HR⟩ := hrel
      by_cases hi : i < s.size
      · obtain ⟨g, rfl⟩ : ∃ g, f = g + 1 := ⟨f - 1, by have := HI.out.2.1; omega⟩
        have hhd := head_at s i hi
        have HG : Aside ((LS s).getD i 0 = s[i]) := ⟨by rw [getD_at_drop, hhd]; rfl⟩
        have HU : Aside (readP (LS s) = if (s[i]).toNat = 34 then (if quote acc = (LS s).take (i + 1) then some (acc, i + 1) else none) else if (oneP ((LS s).drop i)).2 = 0 then none else rdF tokLen eP g (LS s) (acc ++ (oneP ((LS s).drop i)).1) (i + (oneP ((LS s).drop i)).2)) := ⟨by
          rw [HI.out.1, rdF_succ, if_pos (by rw [HL.out]; exact hi), HG.out]⟩
        clear hhd
        by_cases c34 : (s[i]).toNat = 34
        · rw [if_pos c34] at HU
          have hac : acc.length ≤ 2199023255552 := by have := HI.out.2.2; omega
          have hqs : (BA acc).size ≤ 17592186044416 := by rw [BA_size]; omega
          clear HI
          go_wp2_with (go_at_call 19; refine (Tryd.Builder_String_any_k w.heap.size w.heap.size _ _ HR.out.bld HR.out.below.size).mono ?_; rintro e w2 ⟨rfl, hb2, hw2, _⟩; have HR2 : Aside (Rd w w2 acc) := ⟨⟨HR.out.below.trans hw2, hb2, HR.out.tabs⟩⟩; clear hb2 hw2)
          have HQ : Aside (∀ W, Below w2.heap.size w2 W → Calls Tryd.prog 11 #[.string ⟨acc.toArray⟩] W fun e w' => e = .returned (.string (BA (quote acc))) ∧ Below W.heap.size W w') := ⟨fun W hW => by
            have h := quote_ok (BA acc) W (tabs_below HR2.out.tabs' hW) hqs
            unfold QuotePost at h
            rw [LS_BA] at h
            exact h⟩
          have HR3 : Aside (∀ W, Below w2.heap.size w2 W → Below w.heap.size w W) := ⟨fun W h => (HR2.out.step h).below⟩
          have hsl : i + 1 ≤ s.size := hi
          have hwr : IntKind.i64.wrap ((i : Int) + 1) = (i : Int) + 1 := by rw [IntKind.wrap_i64]; omega
          by_cases hqe : quote acc = (LS s).take (i + 1)
          · have HB := Aside.mk (eq_BA (BA (quote acc)) (s.extract 0 (i + 1)) true (by rw [LS_BA, LS_take, decide_eq_true hqe]))
            rw [if_pos hqe] at HU
            clear hqe
            go_region_with (go_at_call 11; refine (HQ.out _ (by first | exact Below.refl _ _ | exact (Below.refl _ _).drew)).mono ?_; rintro e w3 ⟨rfl, hb3⟩; have HB3 : Aside (Below w.heap.size w w3) := ⟨HR3.out _ ((Below.refl w2.heap.size w2).drew.trans hb3)⟩; clear hb3)
            all_goals
              rw [HB.out]
              go_wp2_with fail
              go_ret3
              exact ⟨by rw [HU.out]; rfl, HB3.out⟩
          · have HB := Aside.mk (eq_BA (BA (quote acc)) (s.extract 0 (i + 1)) false (by rw [LS_BA, LS_take, decide_eq_false hqe]))
            rw [if_neg hqe] at HU
            clear hqe
            go_region_with (go_at_call 11; refine (HQ.out _ (by first | exact Below.refl _ _ | exact (Below.refl _ _).drew)).mono ?_; rintro e w3 ⟨rfl, hb3⟩; have HB3 : Aside (Below w.heap.size w w3) := ⟨HR3.out _ ((Below.refl w2.heap.size w2).drew.trans hb3)⟩; clear hb3)
            all_goals
              rw [HB.out]
              go_wp2_with fail
              go_ret3
              exact ⟨by rw [HU.out]; rfl, HB3.out⟩
        · rw [if_neg c34] at HU
          have HX : Aside (LS (s.extract i s.size) = (LS s).drop i) := ⟨LS_extract s i (by omega)⟩
          have hxs : 0 < (s.extract i s.size).size := by rw [← LS_length, HX.out, List.length_drop, HL.out]; omega
          have HO := Aside.mk (one_ok (s.extract i s.size) wr HR.out.tabs' hxs)
          unfold OnePost at HO
          rw [HX.out] at HO
          have HLE := Aside.mk (one_len ((LS s).drop i))
          clear hxs
          generalize oneP ((LS s).drop i) = pk at *
          obtain ⟨p, k⟩ := pk
          have hk6 : k ≤ 6 := HLE.out.2
          have hpk : p.length ≤ k := HLE.out.1
          by_cases hk : k = 0
          · subst hk
            have HN : Aside (readP (LS s) = none) := ⟨by rw [HU.out, if_pos rfl]⟩
            clear HU HI HLE
            go_wp2_with (go_at_call 20; refine HO.out.mono ?_; rintro e w2 ⟨rfl, hb⟩; have HR2 := Aside.mk (HR.out.step hb); clear hb)
            go_ret3
            exact ⟨by rw [HN.out]; rfl, HR2.out.below⟩
          · have HI2 : Aside (readP (LS s) = rdF tokLen eP g (LS s) (acc ++ p) (i + k) ∧ s.size < g + (i + k) ∧ (acc ++ p).length ≤ i + k) := ⟨by
              refine ⟨by rw [HU.out, if_neg hk], ?_, ?_⟩
              · have := HI.out.2.1; omega
              · have := HI.out.2.2; rw [List.length_append]; omega⟩
            have hap : acc.length + p.length ≤ 140737488355328 := by have := HI.out.2.2; omega
            clear HU HI HLE
            go_wp2_with (go_at_call 20; refine HO.out.mono ?_; rintro e w2 ⟨rfl, hb⟩; have HR2 := Aside.mk (HR.out.step hb); clear hb)
            refine (write_ok w.heap.size w.heap.size acc p _ HR2.out.bld hap HR2.out.below.size).mono ?_
            rintro e w4 ⟨rfl, hb4, hw4, hk4⟩
            have HR4 : Aside (Rd w w4 (acc ++ p)) := ⟨⟨HR2.out.below.trans hw4, hb4, HR2.out.tabs⟩⟩
            clear hb4 hw4 hk4
            go_wp2_with fail
            go_roundw
            case rel => exact ⟨i + k, g, acc ++ p, by go_num, HI2, by omega, HR4⟩
            case measure => simp [intOf]; omega
      · have HN : Aside (readP (LS s) = none) := ⟨by
          rw [HI.out.1]
          cases f with
          | zero => rfl
          | succ g => rw [rdF_succ, if_neg (by rw [HL.out]; exact hi)]⟩
        clear HI
        go_wp2_with fail
        go_ret3
        exact ⟨by rw [HN.out]; rfl, HR.out.below⟩
  · rw [decide_eq_false hq] at hpr
    have HR0 : Aside (readP (LS s) = none) := ⟨by unfold readP readG; rw [if_neg hq]⟩
    rw [show (⟨#[34]⟩ : ByteArray).data.toList = [34] from rfl, hpr] at HP
    clear hT hpr hq
    go_enter Tryd.func10, Tryd.ntmps10
    go_wp2_with (go_at_call 18; refine HP.out.mono ?_; rintro e w1 ⟨rfl, hw⟩; have hw := hw.symm; subst hw)
    go_ret3
    exact ⟨by rw [HR0.out]; rfl, Below.refl _ _⟩
end Go.Proofs.YtanimkkljbadpaaDoor
