/-
  What stands in for tag.Decode of a page that was not written.
-/
import Derived.Test.YtjmhkcfdmcjilaaGreatAiS
import Derived.Lib.BytesEntry
import Derived.Lib.MakeNoZero
/- What stands in is so, in this program. -/
namespace Go.Proofs.YtjmhkcfdmcjilaaGreat
namespace Ai
open Go.RowKit
section
variable {B0 : Nat} {W0 : World}

theorem mixed : Tryz.prog.follows .mixedOrders = true := by kernel_rfl

theorem named_all : (Tryz.prog.funcs.toList.all fun fn => !(fn.name == "runtime.NumGoroutine")) = true := by decide +kernel

theorem named : Named Tryz.prog := fun g fn h => by
  have h1 := List.all_eq_true.1 named_all fn (Array.mem_toList_iff.2 (Array.mem_of_getElem? h))
  simpa using h1

theorem enter_run {g : FuncId} {fn : Func} {c : Code} (hf : Tryz.prog.funcs[g]? = some fn) (hb : fn.body = some c) (vs : Array Value) (w : World) : (callFunc g vs).run Tryz.prog w = .ok (.enter g vs) w := by
  have h1 := named g fn hf
  simp [callFunc, hf, hb]
  simpa using h1

theorem two_vs {ν : Nu} {x y : V} {vs : Array Value} (h : ArgsR ν [x, y] vs) : ∃ a b, vs = #[a, b] ∧ cvV ν x = some a ∧ cvV ν y = some b := by
  obtain ⟨a, b, h1, h2, h3⟩ := two_of h
  exact ⟨a, b, by apply Array.ext'; simpa using h1, h2, h3⟩

theorem one_vs {ν : Nu} {x : V} {vs : Array Value} (h : ArgsR ν [x] vs) : ∃ a, vs = #[a] ∧ cvV ν x = some a := by
  obtain ⟨a, h1, h2⟩ := one_of h
  exact ⟨a, by apply Array.ext'; simpa using h1, h2⟩

theorem cond_some {α : Type} {b : Bool} {x : Option α} {y : α} (h : cond b x none = some y) : b = true ∧ x = some y := by
  cases b with
  | true => exact ⟨rfl, h⟩
  | false => cases h

theorem fill_sound {l : List V} {h h' : H} {v : V} (e : aFillAll l h = some (v, h')) : SoundCall Tryz.prog B0 W0 102 l h v h' := by
  intro ν w vs ga ha
  unfold aFillAll at e
  split at e
  · rename_i b off len c o x
    obtain ⟨a1, a2, rfl, h1, h2⟩ := two_vs ha
    obtain ⟨y, hy, rfl⟩ := sl_of h1
    obtain rfl := int_of h2
    split at e
    · rename_i k t el z o' hn
      obtain ⟨hc, he⟩ := cond_some e
      simp only [Option.some.injEq, Prod.mk.injEq] at he
      obtain ⟨rfl, rfl⟩ := he
      simp only [Bool.and_eq_true, beq_dec, decide_eq_true_eq] at hc
      obtain ⟨rfl, rfl⟩ := hc
      obtain ⟨b1, sl, cur, j1, j2, j3, j4, j5, j6, j7⟩ := ga.row hn
      rw [hy] at j1
      obtain rfl : y = (b1, sl) := Option.some.inj j1
      have hk : len ≤ cur.size := by omega
      have hw := fill_ok b1 (cond o (c + sl) c) len x cur el w j4 hk (by have := j5.1; simp only [top] at this; exact this)
      refine .inr ⟨enter_run Tryz.func102 rfl _ w, hw.mono fun e w' ⟨he, hw'⟩ => ⟨_, he, ν, Nu.le_refl ν, ?_, rfl⟩⟩
      subst hw'
      refine ga.setRow hn hy j4 ⟨j5.1, fun i hi => .inr ⟨.int .u8 x, ?_, by rw [Tr.get_leaf]; rfl⟩⟩ (fillTo_size x hk)
      simp only [fillTo, List.getElem?_toArray]
      rw [List.getElem?_append_left (by simpa using hi)]
      simp [hi]
    · cases e
  · cases e

theorem aFirst_cells {ν : Nu} {h : H} {w : World} (g : Ga B0 W0 ν h w) {z n b off len c : Nat} {o : Bool} {l : List S} (e : aFirst h z n (.w (.s (.sl b off len c o))) = some l) {y : Nat × Nat} (hy : ν b = some y) :
    ∃ vs, cvL ν l = some vs ∧ vs.length = n * z ∧ ∀ j v, vs[j]? = some v → w.cell? ⟨y.1, off + j, none⟩ = some v := by
  unfold aFirst at e
  simp only at e
  split at e
  · rename_i k r el z' o' hn
    obtain ⟨b1, sl, cur, h1, _, _, h4, h5, h6, _⟩ := g.row hn
    rw [hy] at h1
    obtain rfl : y = (b1, sl) := Option.some.inj h1
    obtain ⟨hc, he⟩ := cond_some e
    simp only [Option.some.injEq] at he
    subst he
    simp only [Bool.and_eq_true] at hc
    obtain ⟨vs, k1, k2, k3⟩ := RowR_cells h5 (Nat.le_of_ble_eq_true hc.1) hc.2
    exact ⟨vs, k1, k2, fun j v hj => by rw [cell_at h4]; exact k3 j v hj⟩
  · cases e

theorem count_sound {l : List V} {h h' : H} {v : V} (e : aCount l h = some (v, h')) : SoundCall Tryz.prog B0 W0 124 l h v h' := by
  intro ν w vs ga ha
  unfold aCount at e
  split at e
  · rename_i b c
    obtain ⟨a1, a2, rfl, h1, h2⟩ := two_vs ha
    obtain rfl := int_of h2
    split at e
    · rename_i n off len cc o
      obtain ⟨y, hy, rfl⟩ := sl_of h1
      split at e
      · rename_i cells hf
        split at e
        · rename_i bs hb
          simp only [Option.some.injEq, Prod.mk.injEq] at e
          obtain ⟨rfl, rfl⟩ := e
          obtain ⟨us, k1, k2, k3⟩ := aFirst_cells ga hf hy
          obtain ⟨ns, rfl, rfl⟩ := toBytes_ok hb k1
          have hlen : ns.length = len := by simpa using k2
          have hl := Lib.run_loadBytesX (P := Tryz.prog) w ns ⟨y.1, off, none⟩ .empty (fun j x hj => by
            rw [add_addr]
            exact k3 j _ (by rw [List.getElem?_map, hj]; rfl))
          rw [hlen] at hl
          have hrun := run_callFunc_extern (P := Tryz.prog) (f := 124) (fn := Tryz.f124) (e := Extern.BytealgCount.count) Tryz.func124 (by kernel_rfl) rfl (by kernel_rfl) (by kernel_rfl)
            #[.slice (some ⟨y.1, off, none⟩) len (cond o (cc + y.2) cc), .int .u8 ((c : Nat) : Int)] w
          refine .inl ⟨_, w, ?_, ν, Nu.le_refl ν, ga, rfl⟩
          have hcount : (Extern.BytealgCount.count #[.slice (some ⟨y.1, off, none⟩) len (cond o (cc + y.2) cc), .int .u8 ((c : Nat) : Int)]).run Tryz.prog w =
              .ok (goInt ((Lib.bytesOf ns).foldl (fun n x => if x == c.toUInt8 then n + 1 else n) ((0 : Nat) : Int))) w := by
            change Sem.run Tryz.prog (do
              let b ← Extern.Bytes.bytesOf (.slice (some ⟨y.1, off, none⟩) len (cond o (cc + y.2) cc))
              let c' ← Extern.Bytes.asByte (.int .u8 ((c : Nat) : Int))
              pure (goInt (b.foldl (fun n x => if x == c' then n + 1 else n) (0 : Nat)))) w = _
            simp only [Extern.Bytes.bytesOf, Extern.Bytes.asByte, Sem.run_bind, hl, Result.andThen_ok, Sem.run_pure, Lib.foldl_data]
            simp
          show (callFunc 124 #[.slice (some ⟨y.1, off, none⟩) len (cond o (cc + y.2) cc), .int .u8 ((c : Nat) : Int)]).run Tryz.prog w = _
          rw [hrun, hcount]
          rfl
        · cases e
      · cases e
    · cases e
  · cases e

theorem make_sound {l : List V} {h h' : H} {v : V} (e : aMakeNoZero 5 l h = some (v, h')) : SoundCall Tryz.prog B0 W0 117 l h v h' := by
  intro ν w vs ga ha
  unfold aMakeNoZero at e
  split at e
  · rename_i n
    obtain ⟨a1, rfl, h1⟩ := one_vs ha
    obtain rfl := int_of h1
    obtain ⟨hc, he⟩ := cond_some e
    split at he
    · rename_i b hh hn
      simp only [Option.some.injEq, Prod.mk.injEq] at he
      obtain ⟨rfl, rfl⟩ := he
      have hlt : n < top := Nat.le_of_ble_eq_true hc
      simp only [top] at hlt
      have hu : Tryz.prog.underlying 37 = some (.slice 5) := by kernel_rfl
      obtain ⟨cs, hmake, hge, _⟩ := Lib.run_makeNoZero (P := Tryz.prog) w #[3] 37 5 hu n (by omega)
      have hrun := run_callFunc_extern (P := Tryz.prog) (f := 117) (fn := Tryz.f117) (e := Extern.BytealgMakeNoZero.makeNoZero #[3] #[37]) Tryz.func117 (by kernel_rfl) rfl (by kernel_rfl) (by kernel_rfl) #[.int .i64 ((n : Nat) : Int)] w
      obtain ⟨k1, k2⟩ := ga.drew.drew.new hn (by simp) (cs.size - n) (.cells cs 5)
        ⟨_, rfl, ⟨by simp only [top]; omega, fun i _ => .inl (Tr.get_leaf _ _)⟩, by omega, by simp⟩
      refine .inl ⟨.slice (some ⟨w.heap.size, 0, none⟩) n cs.size, _, ?_, _, k1, k2, ?_⟩
      · show (callFunc 117 #[.int .i64 ((n : Nat) : Int)]).run Tryz.prog w = _
        rw [hrun, hmake]
        rfl
      · rw [sl_mk (y := (w.drew.drew.heap.size, cs.size - n)) 0 n n true (by simp [Nu.upd])]
        simp only [cond_true]
        have : n + (cs.size - n) = cs.size := by omega
        rw [this]
        rfl
    · cases he
  · cases e

theorem crc_sound {l : List V} {h h' : H} {v : V} (e : aCrc l h = some (v, h')) : SoundCall Tryz.prog B0 W0 92 l h v h' := by
  intro ν w vs ga ha
  unfold aCrc at e
  split at e
  · rename_i s b off len c o
    obtain ⟨a1, a2, rfl, h1, h2⟩ := two_vs ha
    obtain rfl := int_of h1
    obtain ⟨y, hy, rfl⟩ := sl_of h2
    split at e
    · rename_i cells hf
      split at e
      · rename_i bs hb
        obtain ⟨hs, e⟩ := cond_some e
        simp only [Option.some.injEq, Prod.mk.injEq] at e
        obtain ⟨rfl, rfl⟩ := e
        obtain ⟨us, k1, k2, k3⟩ := aFirst_cells ga hf hy
        have hsm : ∀ {l : List S} {vs : List Value} {bs : List UInt8}, smallL l = true → cvL ν l = some vs → aToBytes l = some bs → ∀ (i : Nat) (x : UInt8), bs[i]? = some x → vs[i]? = some (.int .u8 (x.toNat : Int)) := by
          intro l
          induction l with
          | nil =>
            intro vs bs _ _ hb i x hx
            simp only [aToBytes, Option.some.injEq] at hb
            subst hb
            simp at hx
          | cons y l ih =>
            intro vs bs hsm hv hb i x hx
            obtain ⟨v, ws, q1, q2, rfl⟩ := cvL_cons hv
            unfold smallL at hsm
            split at hsm
            · rename_i heq; cases heq
            · rename_i n l' heq
              obtain ⟨rfl, rfl⟩ := List.cons.inj heq
              simp only [Bool.and_eq_true] at hsm
              have hn : n < 256 := Nat.le_of_ble_eq_true hsm.1
              simp only [aToBytes] at hb
              cases hr : aToBytes l with
              | none => simp [hr] at hb
              | some r =>
                simp only [hr, Option.some.injEq] at hb
                subst hb
                cases i with
                | zero =>
                  simp only [List.getElem?_cons_zero, Option.some.injEq] at hx ⊢
                  simp only [cvS, Option.some.injEq] at q1
                  rw [← q1, ← hx]
                  have : (UInt8.ofNat n).toNat = n := by simp; omega
                  rw [this]
                  rfl
                | succ i => simpa using ih hsm.2 q2 hr i x (by simpa using hx)
            · cases hsm
        simp only [Bool.and_eq_true, Nat.blt, ble_dec, decide_eq_true_eq, top] at hs
        have hbl : bs.length = len := by
          obtain ⟨ns, e1, e2⟩ := toBytes_ok hb k1
          rw [e2, List.length_map]
          rw [e1] at k2
          simpa using k2
        have hw := crc_ok y.1 off (cond o (c + y.2) c) s len bs w (by omega) (by omega) hbl (fun i x hx => k3 i _ (hsm hs.2 k1 hb i x hx))
        exact .inr ⟨enter_run Tryz.func92 rfl _ w, hw.mono fun e w' ⟨he, hw'⟩ => ⟨_, he, ν, Nu.le_refl ν, by rw [hw']; exact ga, rfl⟩⟩
      · cases e
    · cases e
  · cases e

theorem natT_ok : NatOk Tryz.prog natT := by
  intro B0 W0 g args h v h' e
  unfold natT at e
  split at e
  · simp only [Option.some.injEq] at e; exact count_sound e
  · simp only [Option.some.injEq] at e; exact make_sound e
  · simp only [Option.some.injEq] at e; exact fill_sound e
  · simp only [Option.some.injEq] at e; exact crc_sound e
  · cases e

end
end Ai
end Go.Proofs.YtjmhkcfdmcjilaaGreat
namespace Go.Proofs.YtjmhkcfdmcjilaaGreat
namespace Ai
open Go.RowKit

/-- All cells of a page hold 255. -/
def CleanAt (w : World) (b off : Nat) : Prop := ∀ j, j < 68 → w.cell? ⟨b, off + j, none⟩ = some (.int .u8 255)

theorem ext_count (w : World) (b off cap : Nat) (h : CleanAt w b off) : (callFunc 124 #[.slice (some ⟨b, off, none⟩) 68 cap, .int .u8 255]).run Tryz.prog w = .ok (.value (.int .i64 68)) w := by
  have hl := Lib.run_loadBytesX (P := Tryz.prog) w (List.replicate 68 (255 : Int)) ⟨b, off, none⟩ .empty (fun j x hj => by
    rw [add_addr]
    have hj1 : j < 68 := by
      have := (List.getElem?_eq_some_iff.1 hj).1
      simpa using this
    rw [List.getElem?_replicate, if_pos hj1] at hj
    rw [← Option.some.inj hj]
    exact h j hj1)
  rw [List.length_replicate] at hl
  have hrun := run_callFunc_extern (P := Tryz.prog) (f := 124) (fn := Tryz.f124) (e := Extern.BytealgCount.count) Tryz.func124 (by kernel_rfl) rfl (by kernel_rfl) (by kernel_rfl)
    #[.slice (some ⟨b, off, none⟩) 68 cap, .int .u8 255] w
  have hcount : (Extern.BytealgCount.count #[.slice (some ⟨b, off, none⟩) 68 cap, .int .u8 255]).run Tryz.prog w = .ok (.int .i64 68) w := by
    change Sem.run Tryz.prog (do
      let b ← Extern.Bytes.bytesOf (.slice (some ⟨b, off, none⟩) 68 cap)
      let c' ← Extern.Bytes.asByte (.int .u8 255)
      pure (goInt (b.foldl (fun n x => if x == c' then n + 1 else n) (0 : Nat)))) w = _
    simp only [Extern.Bytes.bytesOf, Extern.Bytes.asByte, Sem.run_bind, hl, Result.andThen_ok, Sem.run_pure]
    rw [Lib.foldl_data]
    have : (List.foldl (fun n x => if (x == (Int.toNat 255).toUInt8) = true then n + 1 else n) (((0 : Nat) : Int)) (ByteArray.mk (ByteArray.empty.data ++ (Lib.bytesOf (List.replicate 68 (255 : Int))).toArray)).data.toList) = 68 := by decide +kernel
    rw [this]
    rfl
  rw [hrun, hcount]
  rfl

set_option maxHeartbeats 1000000 in
set_option maxRecDepth 100000 in
theorem bcount_ok (w : World) (b off cap b2 : Nat) (h : CleanAt w b off) (h2 : w.cell? ⟨b2, 0, none⟩ = some (.int .u8 255)) :
    Calls Tryz.prog 93 #[.slice (some ⟨b, off, none⟩) 68 cap, .slice (some ⟨b2, 0, none⟩) 1 1] w fun e w' => e = .returned (.int .i64 68) ∧ w' = w := by
  have hx := ext_count w b off cap h
  clear h
  go_enter Tryz.func93, Tryz.ntmps93
  go_wp2_with fail
  go_ret
  exact ⟨rfl, rfl⟩

theorem CleanAt.below {w w' : World} {b off : Nat} (h : CleanAt w b off) (k : Below w.heap.size w w') : CleanAt w' b off := fun j hj => by
  have h1 := h j hj
  rw [k.cell (World.block_lt_of_cell? _ _ h1)]
  exact h1

set_option maxHeartbeats 1000000 in
set_option maxRecDepth 100000 in
theorem clean_ok (w : World) (b off cap : Nat) (h : CleanAt w b off) :
    Calls Tryz.prog 51 #[.slice (some ⟨b, off, none⟩) 68 cap] w fun e w' => e = .returned (.bool true) ∧ w' = w.alloc (.cells #[.int .u8 255] 5 (0, 0)) := by
  have H := Aside.mk h
  clear h
  go_enter Tryz.func51, Tryz.ntmps51
  go_wp2_with (go_at_call 93; refine (bcount_ok _ b off cap _ (H.out.below ((Below.refl _ w).alloc (Nat.le_refl _) _)) (by go_side)).mono ?_; rintro e w1 ⟨rfl, rfl⟩)
  go_ret
  exact ⟨rfl, rfl⟩


/-- From 'off' on, n cells hold 255. -/
def cleanFrom (r : Tr S) : (n off : Nat) → Bool
  | 0, _ => true
  | n + 1, off => match r.get off with
    | .i .u8 (.ofNat m) => cond (Nat.beq m 255) (cleanFrom r n (Nat.succ off)) false
    | _ => false

theorem cleanFrom_ok {r : Tr S} : ∀ (n off : Nat), cleanFrom r n off = true → ∀ j, j < n → r.get (off + j) = .i .u8 255
  | 0, _, _, j, hj => by omega
  | n + 1, off, h, j, hj => by
    unfold cleanFrom at h
    split at h
    · rename_i m hm
      cases hb : Nat.beq m 255 with
      | false => simp [hb] at h
      | true =>
        simp only [hb, cond_true] at h
        cases j with
        | zero => rw [Nat.add_zero, hm, Nat.eq_of_beq_eq_true hb]; rfl
        | succ j =>
          have := cleanFrom_ok n (off + 1) h j (by omega)
          rw [← this]
          congr 1
          omega
    · cases h

/-- tag.Clean of a page that was not written. -/
def aClean (l : List V) (h : H) : Option (V × H) :=
  match l with
  | [.w (.s (.sl b off len _ _))] => cond (Nat.beq len 68) (match h.get b with
    | .row k r _ _ _ => cond (Nat.ble (off + 68) k && cleanFrom r 68 off) (some (.w (.s (.b true)), h)) none
    | _ => none) none
  | _ => none

theorem Ga.later {B0 : Nat} {W0 w w' : World} {ν : Nu} {h : H} (g : Ga B0 W0 ν h w) (k : Below w.heap.size w w') : Ga B0 W0 ν h w' where
  below := g.below.trans (k.mono g.base)
  base := Nat.le_trans g.base k.size
  no := g.no
  lim := g.lim
  obj := fun n hn => by
    obtain ⟨y, h1, h2, h3⟩ := g.obj n hn
    refine ⟨y, h1, h2, ?_⟩
    rw [k.block y.1 h3.lt]
    exact h3
  inj := g.inj

theorem clean_sound {B0 : Nat} {W0 : World} {l : List V} {h h' : H} {v : V} (e : aClean l h = some (v, h')) : SoundCall Tryz.prog B0 W0 51 l h v h' := by
  intro ν w vs ga ha
  unfold aClean at e
  split at e
  · rename_i b off len c o
    obtain ⟨hl, e2⟩ := cond_some e
    clear e
    obtain rfl := Nat.eq_of_beq_eq_true hl
    obtain ⟨a1, rfl, h1⟩ := one_vs ha
    obtain ⟨y, hy, rfl⟩ := sl_of h1
    cases hn : h.get b with
    | row k r el z o' =>
      simp only [hn] at e2
      obtain ⟨hc, he⟩ := cond_some e2
      cases he
      simp only [Bool.and_eq_true, ble_dec, decide_eq_true_eq] at hc
      obtain ⟨b1, sl, cur, j1, _, _, j4, j5, j6, _⟩ := ga.row hn
      rw [hy] at j1
      obtain rfl : y = (b1, sl) := Option.some.inj j1
      have hclean : CleanAt w b1 off := fun j hj => by
        rw [cell_at j4]
        have hr := cleanFrom_ok 68 off hc.2 j hj
        rcases j5.2 (off + j) (by omega) with h2 | ⟨v, h2, h3⟩
        · rw [hr] at h2; cases h2
        · rw [hr] at h3
          rw [h2, ← Option.some.inj h3]
      exact .inr ⟨enter_run Tryz.func51 rfl _ w, (clean_ok w b1 off _ hclean).mono fun e w' ⟨he, hw'⟩ => ⟨_, he, ν, Nu.le_refl ν, by rw [hw']; exact ga.later ((Below.refl _ w).alloc (Nat.le_refl _) _), rfl⟩⟩
    | none => simp [hn] at e2
    | dead => simp [hn] at e2
    | map es cl => simp [hn] at e2
  · cases e

def natU : Nat' := fun g l h => match g with
  | 51 => match aClean l h with
    | some r => some (some r)
    | none => none
  | g => natT g l h

theorem natU_ok : NatOk Tryz.prog natU := by
  intro B0 W0 g args h v h' e
  unfold natU at e
  split at e
  · split at e
    · rename_i r hr
      simp only [Option.some.injEq] at e
      subst e
      exact clean_sound hr
    · cases e
  · exact natT_ok B0 W0 g args h v h' e
end Ai
end Go.Proofs.YtjmhkcfdmcjilaaGreat
