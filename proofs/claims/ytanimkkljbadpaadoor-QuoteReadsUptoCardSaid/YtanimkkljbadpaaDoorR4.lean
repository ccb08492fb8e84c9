/- The reference's one, Read are the plain ones: the printed functions. -/
import Derived.Test.YtanimkkljbadpaaDoorR3
import Derived.Test.YtanimkkljbadpaaDoorH5
set_option linter.unusedVariables false
set_option linter.unusedSimpArgs false
namespace Go.Proofs.YtanimkkljbadpaaDoor
namespace RefB
open Go.RowKit Go.Proofs.YtanimkkljbadpaaDoorW.PrintWords Q PQuoteReads
open RefA (wr bt_BA BA_drop BA_size_drop)

def wR (l : Bs) : Nat := (dec l).2
def oneR (l : Bs) : Bs × Nat := oneG wR enc l
theorem fairR : Q.Fair wR enc := ⟨fun _ _ => rfl, fun _ _ _ => rfl⟩
def oneV (p : Bs × Nat) : ByteArray × Int := (BA p.1, (p.2 : Int))
theorem BA_take (l : Bs) (n : Nat) : (BA l).extract 0 n = BA (l.take n) := by rw [← BA_LS (ByteArray.extract _ _ _), LS_take, LS_BA]
theorem dig_neg (o : Option Nat) (ho : o = none) : digV o < 0 := by subst ho; decide
theorem one_plain (l : Bs) (hl : l ≠ []) (k : Nat) (hk : 12 ≤ k) : ferruleref5_one.f k (BA l) = some (oneV (oneR l)) := by
  unfold ferruleref5_one.f
  obtain ⟨c, r, rfl⟩ : ∃ c r, l = c :: r := by cases l with | nil => exact absurd rfl hl | cons b t => exact ⟨b, t, rfl⟩
  have hb : bt (BA (c :: r)) 0 = (c.toNat : Int) := bt_BA (c :: r) 0 (by simp)
  have h256 := c.toNat_lt
  rw [BA_size, if_pos (by simp only [List.length_cons]; omega), hb]
  by_cases c0 : c.toNat = 92
  · rw [if_pos (by omega)]
    cases r with
    | nil =>
      have ho : oneR [c] = ([], 0) := by unfold oneR; simp only [oneG, c0, ne_eq, not_true_eq_false, if_false]
      rw [if_pos (by simp), ho]; rfl
    | cons d r =>
      have ho : oneR (c :: d :: r) = (if d.toNat = 34 ∨ d.toNat = 92 then ([d], 2)
        else if d.toNat = 110 then ([10], 2)
        else if d.toNat = 116 then ([9], 2)
        else if d.toNat = 48 then ([0], 2)
        else if d.toNat = 120 then (match undigs 2 r 0 with | some v => ([UInt8.ofNat v], 4) | none => ([], 0))
        else if d.toNat = 117 then (match undigs 4 r 0 with | some v => (enc v, 6) | none => ([], 0))
        else ([], 0)) := by
        unfold oneR; simp only [oneG, c0, ne_eq, not_true_eq_false, if_false]; rfl
      rw [ho]
      have hd : bt (BA (c :: d :: r)) 1 = (d.toNat : Int) := bt_BA (c :: d :: r) 1 (by simp)
      have h256 := d.toNat_lt
      rw [if_neg (by simp only [List.length_cons]; omega), if_pos (by simp only [List.length_cons]; omega), hd]
      obtain ⟨k, rfl⟩ : ∃ j, k = j + 1 := ⟨k - 1, by omega⟩
      have hex : (BA (c :: d :: r)).extract 1 2 = BA [d] := by
        rw [← BA_LS (ByteArray.extract _ _ _)]
        simp only [LS, BA, ByteArray.data_extract, Array.toList_extract, List.extract_eq_take_drop]
        rfl
      have hdr : (BA (c :: d :: r)).extract 2 (BA (c :: d :: r)).size = BA r := BA_drop (c :: d :: r) 2 (by simp)
      have hsz : ((BA (c :: d :: r)).size : Int) = ((r.length + 2 : Nat) : Int) := by rw [BA_size]; rfl
      have d2 := digits_plain 2 k r (by omega) (by omega)
      have d4 := digits_plain 4 k r (by omega) (by omega)
      have hj : ∀ cc : Bool, (cc = true ↔ (d.toNat = 34 ∨ d.toNat = 92)) → ferruleref5_one.j0 (k + 1) (BA (c :: d :: r)) (d.toNat : Int) cc = some (oneV (if d.toNat = 34 ∨ d.toNat = 92 then ([d], 2)
        else if d.toNat = 110 then ([10], 2)
        else if d.toNat = 116 then ([9], 2)
        else if d.toNat = 48 then ([0], 2)
        else if d.toNat = 120 then (match undigs 2 r 0 with | some v => ([UInt8.ofNat v], 4) | none => ([], 0))
        else if d.toNat = 117 then (match undigs 4 r 0 with | some v => (enc v, 6) | none => ([], 0))
        else ([], 0))) := by
        intro cc hcc
        rw [ferruleref5_one.j0]
        by_cases k1 : d.toNat = 34 ∨ d.toNat = 92
        · rw [if_pos (hcc.2 k1), if_pos (by omega), if_pos (by rw [hsz]; omega), hex, if_pos k1]; rfl
        rw [if_neg (fun h => k1 (hcc.1 h)), if_neg k1]
        by_cases k2 : d.toNat = 110
        · rw [if_pos (by omega), if_pos k2]; rfl
        rw [if_neg (by omega), if_neg k2]
        by_cases k3 : d.toNat = 116
        · rw [if_pos (by omega), if_pos k3]; rfl
        rw [if_neg (by omega), if_neg k3]
        by_cases k4 : d.toNat = 48
        · rw [if_pos (by omega), if_pos k4]; rfl
        rw [if_neg (by omega), if_neg k4]
        by_cases k5 : d.toNat = 120
        · rw [if_pos (by omega), if_pos k5, if_pos (by rw [hsz]; omega), hdr]
          have d2' : ferruleref5_digits.f k (BA r) 2 = _ := d2
          rw [d2', Option.bind_some]
          cases hu : undigs 2 r 0 with
          | none => rw [if_pos (dig_neg _ rfl)]; rfl
          | some v =>
            have hv := undigs_bound _ _ _ _ hu
            have hv2 : v < 256 := by omega
            show (if (v : Int) < 0 then _ else some (strOfNums [((v : Int)) % 256], (4 : Int))) = _
            rw [if_neg (by omega), show (v : Int) % 256 = (v : Int) by omega]
            show some (BA [UInt8.ofNat ((v : Int)).toNat], (4 : Int)) = _
            rw [Int.toNat_natCast]; rfl
        rw [if_neg (by omega), if_neg k5]
        by_cases k6 : d.toNat = 117
        · rw [if_pos (by omega), if_pos k6, if_pos (by rw [hsz]; omega), hdr]
          have d4' : ferruleref5_digits.f k (BA r) 4 = _ := d4
          rw [d4', Option.bind_some]
          cases hu : undigs 4 r 0 with
          | none => rw [if_pos (dig_neg _ rfl)]; rfl
          | some v =>
            have hv := undigs_bound _ _ _ _ hu
            have hv2 : v < 65536 := by omega
            show (if (v : Int) < 0 then _ else (ferruleref5_raw.f (v : Int)).bind _) = _
            rw [if_neg (by omega), raw_plain v hv2, Option.bind_some]; rfl
        rw [if_neg (by omega), if_neg k6]; rfl
      by_cases q : d.toNat = 34
      · rw [if_pos (by omega)]
        exact hj _ ⟨fun _ => .inl q, fun _ => beq_iff_eq.2 (by omega)⟩
      · rw [if_neg (by omega)]
        refine hj _ ⟨fun h => .inr ?_, fun h => beq_iff_eq.2 ?_⟩
        · have := beq_iff_eq.1 h; omega
        · omega
  · rw [if_neg (by omega), rune_more _ k (by omega), Option.bind_some]
    dsimp only
    have ho : oneR (c :: r) = ((c :: r).take (wR (c :: r)), wR (c :: r)) := by
      unfold oneR; simp only [oneG, if_pos c0, ne_eq, c0, not_false_eq_true, if_true]
    have hle : (dec (c :: r)).2 ≤ (c :: r).length := by
      by_cases h0 : (dec (c :: r)).2 = 0
      · omega
      · exact (dec_len h0).2.2
    rw [ho, if_pos (by omega), if_pos (by omega), Int.toNat_natCast, BA_take]
    rfl
theorem oneR_len (l : Bs) (hl : l ≠ []) : (oneR l).2 ≤ l.length ∧ (oneR l).1.length ≤ (oneR l).2 := by
  have hd : wR l ≤ l.length := by
    unfold wR
    by_cases h0 : (dec l).2 = 0
    · omega
    · exact (dec_len h0).2.2
  unfold oneR oneG
  match l, hl with
  | [], h => exact absurd rfl h
  | [c], _ =>
    dsimp only
    split
    · simp only [List.length_take]; omega
    · simp
  | c :: d :: r, _ =>
    dsimp only
    split
    · simp only [List.length_take]; omega
    · repeat' split
      all_goals try simp
      all_goals
        rename_i v hv
        have hs : ∀ n, undigs n r 0 = some v → n ≤ r.length := fun n h => by
          by_cases q : r.length < n
          · rw [undigs_short n r 0 q] at h; exact absurd h (by simp)
          · omega
        first
          | (have := hs _ hv; omega)
          | (have h1 := hs _ hv; have h2 := undigs_bound _ _ _ _ hv; have h3 := (enc_len v).2 (by omega); omega)
def outV (o : Option (Bs × Nat)) : ByteArray × Int × Bool := match o with | some (a, n) => (BA a, (n : Int), true) | none => (BA [], 0, false)
theorem toList_iff (a b : ByteArray) : a.toList = b.toList ↔ LS a = LS b := by rw [ByteArray.toList_eq, ByteArray.toList_eq]
theorem rdR_succ (f : Nat) (T acc : Bs) (i : Nat) : rdF wR enc (f + 1) T acc i = if i < T.length then
      if (T.getD i 0).toNat = 34 then (if quote acc = T.take (i + 1) then some (acc, i + 1) else none)
      else if (oneR (T.drop i)).2 = 0 then none else rdF wR enc f T (acc ++ (oneR (T.drop i)).1) (i + (oneR (T.drop i)).2)
    else none := rfl
theorem read_l0 (T : Bs) (hT : T.length ≤ 1099511627776) : ∀ (f i K : Nat) (acc : Bs), T.length < f + i → i ≤ T.length → acc.length ≤ i → 2 * f + T.length + 40 ≤ K →
    ferruleref5_Read.l0 K (BA T) (N acc) (i : Int) = some (outV (rdF wR enc f T acc i)) := by
  intro f
  induction f with
  | zero => intro i K acc h1 h2; omega
  | succ f ih =>
    intro i K acc h1 h2 h3 hK
    obtain ⟨K, rfl⟩ : ∃ j, K = j + 2 := ⟨K - 2, by omega⟩
    rw [show K + 2 = (K + 1) + 1 from rfl, ferruleref5_Read.l0, BA_size, rdR_succ]
    by_cases hi : i < T.length
    · have hb := bt_BA T i hi
      have hd : T.drop i = T[i] :: T.drop (i + 1) := List.drop_eq_getElem_cons hi
      have hg : T.getD i 0 = T[i] := by rw [getD_at_drop, hd]; rfl
      have hne : T.drop i ≠ [] := by rw [hd]; exact List.cons_ne_nil _ _
      have hol := oneR_len (T.drop i) hne
      rw [List.length_drop] at hol
      rw [if_pos (by omega), if_pos (by omega), hb, hg, if_pos hi]
      by_cases c : (T[i]).toNat = 34
      · rw [if_pos c, show (((T[i]).toNat : Int) != 34) = false by rw [bne_eq_false_iff_eq]; omega, ferruleref5_Read.j2, if_neg (by decide), BA_size, if_neg (by omega), str_N]
        have hq : ferruleref5_Quote.f K (BA acc) = some (BA (quote acc)) := by
          unfold ferruleref5_Quote.f
          have := quote_l0 (K - 10) acc [34] (by omega) (by simp; omega)
          rw [show K - 10 + 10 = K by omega] at this
          exact this
        rw [hq, Option.bind_some, wr _ (by omega), if_pos (by omega), if_pos (by omega)]
        have hx : (BA T).extract 0 (((i : Int) + 1)).toNat = BA (T.take (i + 1)) := by rw [show (((i : Int) + 1)).toNat = i + 1 by omega, BA_take]
        rw [hx]
        by_cases hqq : quote acc = T.take (i + 1)
        · rw [if_pos ((toList_iff _ _).2 (by rw [LS_BA, LS_BA]; exact hqq)), if_pos hqq]; rfl
        · rw [if_neg (fun h => hqq (by have := (toList_iff _ _).1 h; rwa [LS_BA, LS_BA] at this)), if_neg hqq]; rfl
      · rw [if_neg c, show (((T[i]).toNat : Int) != 34) = true by rw [bne_iff_ne]; omega, ferruleref5_Read.j2, if_pos rfl, BA_size, if_pos (by omega), if_pos (by omega), Int.toNat_natCast, BA_size_drop T i (by omega), one_plain _ hne K (by omega), Option.bind_some]
        clear hd hg hne hb
        unfold oneV
        generalize oneR (T.drop i) = pk at *
        obtain ⟨p, k⟩ := pk
        dsimp only at hol ⊢
        by_cases hk : k = 0
        · rw [if_pos (by omega), if_pos hk]; rfl
        · rw [if_neg (by omega), if_neg hk, N_length, BA_size, if_pos (by omega), bytes_N, N_append, wr _ (by omega)]
          exact ih (i + k) K (acc ++ p) (by omega) (by omega) (by rw [List.length_append]; omega) (by omega)
    · rw [if_neg (by omega), if_neg hi, ferruleref5_Read.j2, if_neg (by decide), BA_size, if_pos (by omega)]; rfl
theorem read_plain (T : Bs) (hT : T.length ≤ 1099511627776) : ferruleref5_Read.f (3 * T.length + 50) (BA T) = some (outV (readG wR enc T)) := by
  unfold ferruleref5_Read.f
  rw [BA_size]
  cases T with
  | nil => rw [if_pos (by simp), ferruleref5_Read.j0, if_pos rfl]; rfl
  | cons c r =>
    have hb : bt (BA (c :: r)) 0 = (c.toNat : Int) := bt_BA (c :: r) 0 (by simp)
    rw [if_neg (by simp only [List.length_cons]; omega), if_pos (by simp only [List.length_cons]; omega), hb, show 3 * (c :: r).length + 50 = (3 * (c :: r).length + 49) + 1 from rfl, ferruleref5_Read.j0]
    unfold readG
    by_cases hc : c.toNat = 34
    · rw [show ((c.toNat : Int) != 34) = false by rw [bne_eq_false_iff_eq]; omega, if_neg (by decide), if_pos ⟨by simp, by simpa using hc⟩]
      exact read_l0 (c :: r) hT (c :: r).length 1 _ [] (by omega) (by simp) (by simp) (by omega)
    · rw [show ((c.toNat : Int) != 34) = true by rw [bne_iff_ne]; omega, if_pos rfl, if_neg (fun h => hc (by simpa using h.2))]; rfl
theorem refRead_any (w : World) (s : ByteArray) (r1 : ByteArray) (r2 : Int) (r3 : Bool) (hs : s.size ≤ 1099511627776) (hq : outV (readP (LS s)) = (r1, r2, r3)) : ∀ W, Below w.heap.size w W → Calls Tryd.prog 15 #[.string s] W fun e w' => e = .returned (.tuple #[.string r1, .int .i64 r2, .bool r3]) ∧ Below w.heap.size w w' := by
  intro W hW
  have hl := LS_length s
  have h := read_plain (LS s) (by omega)
  rw [read_alike fairR fairP (LS s)] at h
  rw [BA_LS, show readG tokLen eP (LS s) = readP (LS s) from rfl, hq] at h
  refine (ferruleref5_Read.calls _ s r1 r2 r3 W h).mono ?_
  rintro e w' ⟨rfl, hd⟩
  exact ⟨rfl, step_any hW hd⟩
end RefB
end Go.Proofs.YtanimkkljbadpaaDoor
