/- Walk: hex. -/
import Derived.Test.YtanimkkljbadpaaDoorW5
import Derived.Laws.IdiomStrings
set_option linter.unusedVariables false
set_option linter.unusedSimpArgs false
namespace Go.Proofs.YtanimkkljbadpaaDoor
open Go.Shelf Go.RowKit Q

def undigV (b : UInt8) : Int := match undig b with | some d => (d : Int) | none => -1
set_option maxRecDepth 100000 in
theorem idx_all : ∀ n : Fin 256, Lib.indexByte DIG.data.toList (UInt8.ofNat n.val) = undigV (UInt8.ofNat n.val) := by decide
theorem idx_dig (b : UInt8) : Lib.indexByte DIG.data.toList b = undigV b := by
  have h := idx_all ⟨b.toNat, b.toNat_lt⟩
  simpa using h
theorem undig_lt {b : UInt8} {d : Nat} (h : undig b = some d) : d < 16 := by
  unfold undig at h
  split at h
  · simp at h; omega
  · split at h
    · simp at h; omega
    · simp at h
def hexV (n : Nat) (l : Bs) : Value := match undigs n l 0 with | some v => .tuple #[.int .i32 v, .bool true] | none => .tuple #[.int .i32 0, .bool false]
def HexPost (s : ByteArray) (n : Nat) (w : World) (e : Ending) (w' : World) : Prop := e = .returned (hexV n (LS s)) ∧ Below w.heap.size w w'

theorem undigs_short : ∀ (n : Nat) (l : Bs) (v : Nat), l.length < n → undigs n l v = none := by
  intro n
  induction n with
  | zero => intro l v h; omega
  | succ n ih =>
    intro l v h
    cases l with
    | nil => rfl
    | cons b t =>
      simp only [undigs]
      split
      · exact ih _ _ (by simp at h; omega)
      · rfl
theorem undigs_take : ∀ (n : Nat) (l : Bs) (v : Nat), undigs n (l.take n) v = undigs n l v := by
  intro n
  induction n with
  | zero => intro l v; rfl
  | succ n ih =>
    intro l v
    cases l with
    | nil => rfl
    | cons b t =>
      simp only [undigs, List.take_succ_cons]
      split
      · exact ih _ _
      · rfl
theorem LS_take (s : ByteArray) (n : Nat) : LS (s.extract 0 n) = (LS s).take n := by
  simp [LS, List.extract_eq_take_drop]

theorem bytes_of (r : ByteArray) (w : World) : ∃ (W1 : World) (cap : Nat), (convert 9 38 (.string r)).run Tryd.prog w = .ok (.slice (some ⟨w.heap.size, 0, none⟩) r.size cap) W1 ∧
    Below w.heap.size w W1 ∧ ∀ (j : Nat) (h : j < r.size), W1.cell? ⟨w.heap.size, j, none⟩ = some (.int .u8 (r[j].toNat : Int)) := by
  refine ⟨_, _, Go.run_bytes_of_string (P := Tryd.prog) w 9 38 5 r Tryd.underlying9 Tryd.underlying38 Tryd.underlying5, (Below.refl w.heap.size w).drew.alloc (Nat.le_refl _) _, ?_⟩
  intro j h
  have h1 := World.cell?_alloc_mark w.drew (bytesRow r (grownCap w r.size 0 5)) 5 ((bytesRow r (grownCap w r.size 0 5)).size, (bytesRow r (grownCap w r.size 0 5)).size + 1) j
  exact h1.trans (bytesRow_at r _ j h)
theorem index_dig (b : UInt8) (v : Int) (hv : undigV b = v) (W : World) : Calls Tryd.prog 37 #[.string ⟨#[48, 49, 50, 51, 52, 53, 54, 55, 56, 57, 97, 98, 99, 100, 101, 102]⟩, .int .u8 (b.toNat : Int)] W fun e w' => e = .returned (.int .i64 v) ∧ w' = W := by
  refine (Tryd.strings_IndexByte DIG (b.toNat : Int) W).mono ?_
  rintro e w' ⟨rfl, rfl⟩
  have : ((b.toNat : Int).toNat).toUInt8 = b := by rw [Int.toNat_natCast]; simp
  rw [this, idx_dig, hv]
  exact ⟨rfl, rfl⟩
set_option maxHeartbeats 1000000 in
set_option maxRecDepth 100000 in
theorem hex_ok (s : ByteArray) (n : Nat) (w : World) (hn : n ≤ 4) : Calls Tryd.prog 31 #[.string s, .int .i64 n] w (HexPost s n w) := by
  have HL := Aside.mk (LS_length s)
  by_cases hsn : s.size < n
  · have HS := Aside.mk (undigs_short n (LS s) 0 (by rw [HL.out]; exact hsn))
    go_enter Tryd.func31, Tryd.ntmps31
    go_wp2_with fail
    go_ret2
    exact ⟨by unfold hexV; rw [HS.out]; rfl, Below.refl _ _⟩
  · have HR : Aside (LS (s.extract 0 n) = (LS s).take n) := ⟨LS_take s n⟩
    have hrs : (s.extract 0 n).size = n := by rw [← LS_length, HR.out, List.length_take, HL.out]; omega
    have HU : Aside (undigs n (LS s) 0 = undigs n (LS (s.extract 0 n)) 0) := ⟨by rw [HR.out, undigs_take]⟩
    obtain ⟨W1, cap, kc, hbel, hcells⟩ := bytes_of (s.extract 0 n) w
    have HBEL := Aside.mk hbel
    have HCELLS := Aside.mk hcells
    clear hbel hcells
    go_enter Tryd.func31, Tryd.ntmps31
    go_wp2_with fail
    go_loop [6, 19] (fun v6 v19 => ∃ k V : Nat, k ≤ n ∧ v19 = .int .i64 k ∧ v6 = .int .i32 V ∧ Aside (undigs n (LS (s.extract 0 n)) 0 = undigs (n - k) ((LS (s.extract 0 n)).drop k) V ∧ V + 1 ≤ 16 ^ k)) (fun _ v => n - (intOf v).toNat)
    case atStart => exact ⟨0, 0, by omega, rfl, rfl, ⟨rfl, by decide⟩⟩
    case round =>
      obtain ⟨k, V, hk, rfl, rfl, HV⟩ := hrel
      by_cases hlt : k < n
      · have hkr : k < (s.extract 0 n).size := by omega
        have hhd := head_at (s.extract 0 n) k hkr
        have hcell := HCELLS.out k hkr
        generalize (s.extract 0 n)[k] = b at hhd hcell
        rw [show n - k = (n - (k + 1)) + 1 by omega, hhd] at HV
        have hV4 : V < 65536 := by
          have := Nat.pow_le_pow_right (n := 16) (by omega) (show k ≤ 4 by omega)
          have := HV.out.2
          omega
        cases hd : undig b with
        | some d =>
          have h16 := undig_lt hd
          have HI := Aside.mk (index_dig b (d : Int) (by unfold undigV; rw [hd]))
          have HN : Aside (undigs n (LS (s.extract 0 n)) 0 = undigs (n - (k + 1)) ((LS (s.extract 0 n)).drop (k + 1)) (16 * V + d) ∧ (16 * V + d) + 1 ≤ 16 ^ (k + 1)) := ⟨by
            refine ⟨HV.out.1.trans ?_, ?_⟩
            · simp only [undigs, hd]
            · have := HV.out.2
              rw [Nat.pow_succ]; omega⟩
          clear hd HV hhd hkr
          have hdn : d < 16 := h16
          go_wp2_with (go_at_call 37; refine (HI.out _).mono ?_; rintro e w' ⟨rfl, rfl⟩)
          go_round
          case rel => exact ⟨k + 1, 16 * V + d, by omega, by go_num, by go_num, HN⟩
          case measure => simp [intOf]; omega
        | none =>
          have HI := Aside.mk (index_dig b (-1 : Int) (by unfold undigV; rw [hd]))
          have HN : Aside (undigs n (LS s) 0 = none) := ⟨by
            rw [HU.out, HV.out.1]; simp only [undigs, hd]⟩
          clear hd HV hhd hkr
          go_wp2_with (go_at_call 37; refine (HI.out _).mono ?_; rintro e w' ⟨rfl, rfl⟩)
          go_ret2
          exact ⟨by unfold hexV; rw [HN.out]; rfl, HBEL.out⟩
      · have : k = n := by omega
        subst this
        have HN : Aside (undigs k (LS s) 0 = some V) := ⟨by rw [HU.out, HV.out.1, Nat.sub_self]; rfl⟩
        clear HV
        go_wp2_with fail
        go_ret2
        exact ⟨by unfold hexV; rw [HN.out]; rfl, HBEL.out⟩
end Go.Proofs.YtanimkkljbadpaaDoor
