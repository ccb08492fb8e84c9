/-
  What stands in for tag.Decode of a page that was not written.
-/
import Derived.Test.YtjmhkcfdmcjilaaGreatAiT
namespace Go.Proofs.YtjmhkcfdmcjilaaGreat
namespace Ai
open Go.RowKit

/-- All cells of a page hold 255. -/
def CleanAt (w : World) (b off : Nat) : Prop := ∀ j, j < 68 → w.cell? ⟨b, off + j, none⟩ = some (.int .u8 255)

theorem ext_count (w : World) (b off cap : Nat) (h : CleanAt w b off) : (callFunc 124 #[.slice (some ⟨b, off, none⟩) 68 cap, .int .u8 255]).run Tryz.prog w = .ok (.value (.int .i64 68)) w := by
  have hl := Lib.run_loadBytesX (P := Tryz.prog) w (List.replicate 68 (255 : Int)) ⟨b, off, none⟩ .empty (fun j x hj => by
    rw [add_addr]
    have hj1 : j < 68 := by
      have := (List.getElem?_eq_some_iff.1 hj).1
      simpa using this
    rw [List.getElem?_replicate, if_pos hj1] at hj
    rw [← Option.some.inj hj]
    exact h j hj1)
  rw [List.length_replicate] at hl
  have hrun := run_callFunc_extern (P := Tryz.prog) (f := 124) (fn := Tryz.f124) (e := Extern.BytealgCount.count) Tryz.func124 (by kernel_rfl) rfl (by kernel_rfl) (by kernel_rfl)
    #[.slice (some ⟨b, off, none⟩) 68 cap, .int .u8 255] w
  have hcount : (Extern.BytealgCount.count #[.slice (some ⟨b, off, none⟩) 68 cap, .int .u8 255]).run Tryz.prog w = .ok (.int .i64 68) w := by
    change Sem.run Tryz.prog (do
      let b ← Extern.Bytes.bytesOf (.slice (some ⟨b, off, none⟩) 68 cap)
      let c' ← Extern.Bytes.asByte (.int .u8 255)
      pure (goInt (b.foldl (fun n x => if x == c' then n + 1 else n) (0 : Nat)))) w = _
    simp only [Extern.Bytes.bytesOf, Extern.Bytes.asByte, Sem.run_bind, hl, Result.andThen_ok, Sem.run_pure]
    rw [Lib.foldl_data]
    have : (List.foldl (fun n x => if (x == (Int.toNat 255).toUInt8) = true then n + 1 else n) (((0 : Nat) : Int)) (ByteArray.mk (ByteArray.empty.data ++ (Lib.bytesOf (List.replicate 68 (255 : Int))).toArray)).data.toList) = 68 := by decide +kernel
    rw [this]
    rfl
  rw [hrun, hcount]
  rfl

set_option maxHeartbeats 1000000 in
set_option maxRecDepth 100000 in
theorem bcount_ok (w : World) (b off cap b2 : Nat) (h : CleanAt w b off) (h2 : w.cell? ⟨b2, 0, none⟩ = some (.int .u8 255)) :
    Calls Tryz.prog 93 #[.slice (some ⟨b, off, none⟩) 68 cap, .slice (some ⟨b2, 0, none⟩) 1 1] w fun e w' => e = .returned (.int .i64 68) ∧ w' = w := by
  have hx := ext_count w b off cap h
  clear h
  go_enter Tryz.func93, Tryz.ntmps93
  go_wp2_with fail
  go_ret
  exact ⟨rfl, rfl⟩

theorem CleanAt.below {w w' : World} {b off : Nat} (h : CleanAt w b off) (k : Below w.heap.size w w') : CleanAt w' b off := fun j hj => by
  have h1 := h j hj
  rw [k.cell (World.block_lt_of_cell? _ _ h1)]
  exact h1

set_option maxHeartbeats 1000000 in
set_option maxRecDepth 100000 in
theorem clean_ok (w : World) (b off cap : Nat) (h : CleanAt w b off) :
    Calls Tryz.prog 51 #[.slice (some ⟨b, off, none⟩) 68 cap] w fun e w' => e = .returned (.bool true) ∧ w' = w.alloc (.cells #[.int .u8 255] 5 (0, 0)) := by
  have H := Aside.mk h
  clear h
  go_enter Tryz.func51, Tryz.ntmps51
  go_wp2_with (go_at_call 93; refine (bcount_ok _ b off cap _ (H.out.below ((Below.refl _ w).alloc (Nat.le_refl _) _)) (by go_side)).mono ?_; rintro e w1 ⟨rfl, rfl⟩)
  go_ret
  exact ⟨rfl, rfl⟩


/-- From 'off' on, n cells hold 255. -/
def cleanFrom (r : Tr S) : (n off : Nat) → Bool
  | 0, _ => true
  | n + 1, off => match r.get off with
    | .i .u8 (.ofNat m) => cond (Nat.beq m 255) (cleanFrom r n (Nat.succ off)) false
    | _ => false

theorem cleanFrom_ok {r : Tr S} : ∀ (n off : Nat), cleanFrom r n off = true → ∀ j, j < n → r.get (off + j) = .i .u8 255
  | 0, _, _, j, hj => by omega
  | n + 1, off, h, j, hj => by
    unfold cleanFrom at h
    split at h
    · rename_i m hm
      cases hb : Nat.beq m 255 with
      | false => simp [hb] at h
      | true =>
        simp only [hb, cond_true] at h
        cases j with
        | zero => rw [Nat.add_zero, hm, Nat.eq_of_beq_eq_true hb]; rfl
        | succ j =>
          have := cleanFrom_ok n (off + 1) h j (by omega)
          rw [← this]
          congr 1
          omega
    · cases h

/-- tag.Clean of a page that was not written. -/
def aClean (l : List V) (h : H) : Option (V × H) :=
  match l with
  | [.w (.s (.sl b off len _ _))] => cond (Nat.beq len 68) (match h.get b with
    | .row k r _ _ _ => cond (Nat.ble (off + 68) k && cleanFrom r 68 off) (some (.w (.s (.b true)), h)) none
    | _ => none) none
  | _ => none

theorem Ga.later {B0 : Nat} {W0 w w' : World} {ν : Nu} {h : H} (g : Ga B0 W0 ν h w) (k : Below w.heap.size w w') : Ga B0 W0 ν h w' where
  below := g.below.trans (k.mono g.base)
  base := Nat.le_trans g.base k.size
  no := g.no
  lim := g.lim
  obj := fun n hn => by
    obtain ⟨y, h1, h2, h3⟩ := g.obj n hn
    refine ⟨y, h1, h2, ?_⟩
    rw [k.block y.1 h3.lt]
    exact h3
  inj := g.inj

theorem clean_sound {B0 : Nat} {W0 : World} {l : List V} {h h' : H} {v : V} (e : aClean l h = some (v, h')) : SoundCall Tryz.prog B0 W0 51 l h v h' := by
  intro ν w vs ga ha
  unfold aClean at e
  split at e
  · rename_i b off len c o
    obtain ⟨hl, e2⟩ := cond_some e
    clear e
    obtain rfl := Nat.eq_of_beq_eq_true hl
    obtain ⟨a1, rfl, h1⟩ := one_vs ha
    obtain ⟨y, hy, rfl⟩ := sl_of h1
    cases hn : h.get b with
    | row k r el z o' =>
      simp only [hn] at e2
      obtain ⟨hc, he⟩ := cond_some e2
      cases he
      simp only [Bool.and_eq_true, ble_dec, decide_eq_true_eq] at hc
      obtain ⟨b1, sl, cur, j1, _, _, j4, j5, j6, _⟩ := ga.row hn
      rw [hy] at j1
      obtain rfl : y = (b1, sl) := Option.some.inj j1
      have hclean : CleanAt w b1 off := fun j hj => by
        rw [cell_at j4]
        have hr := cleanFrom_ok 68 off hc.2 j hj
        rcases j5.2 (off + j) (by omega) with h2 | ⟨v, h2, h3⟩
        · rw [hr] at h2; cases h2
        · rw [hr] at h3
          rw [h2, ← Option.some.inj h3]
      exact .inr ⟨enter_run Tryz.func51 rfl _ w, (clean_ok w b1 off _ hclean).mono fun e w' ⟨he, hw'⟩ => ⟨_, he, ν, Nu.le_refl ν, by rw [hw']; exact ga.later ((Below.refl _ w).alloc (Nat.le_refl _) _), rfl⟩⟩
    | none => simp [hn] at e2
    | dead => simp [hn] at e2
    | map es cl => simp [hn] at e2
  · cases e

def natU : Nat' := fun g l h => match g with
  | 51 => match aClean l h with
    | some r => some (some r)
    | none => none
  | g => natT g l h

theorem natU_ok : NatOk Tryz.prog natU := by
  intro B0 W0 g args h v h' e
  unfold natU at e
  split at e
  · split at e
    · rename_i r hr
      simp only [Option.some.injEq] at e
      subst e
      exact clean_sound hr
    · cases e
  · exact natT_ok B0 W0 g args h v h' e
end Ai
end Go.Proofs.YtjmhkcfdmcjilaaGreat
