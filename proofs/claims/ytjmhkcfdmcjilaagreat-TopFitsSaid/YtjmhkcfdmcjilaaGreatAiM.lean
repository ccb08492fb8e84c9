/-
  What the reckoner says of a region that draws its order is so, whatever the order.
-/
import Derived.Test.YtjmhkcfdmcjilaaGreatAiL
namespace Go.Proofs.YtjmhkcfdmcjilaaGreat
namespace Ai
open Go.RowKit
section
variable {P : Program} {ops : Array Oper}

def stepCount : List Step → Nat
  | [] => 0
  | .q _ :: l => stepCount l + 1
  | .one _ :: l => stepCount l + 1
  | .two _ _ :: l => stepCount l + 2

/-- A plan that is right. -/
def PlanR (ops : Array Oper) : Array Bool → List Step → Prop
  | listed, [] => Region.ready .any ops listed = []
  | listed, .q i :: rest => (∃ o, ops[i]? = some o ∧ quietKind o.op = true) ∧ i ∈ Region.ready .any ops listed ∧ Region.free .any ops listed i = true ∧ PlanR ops (listed.setIfInBounds i true) rest
  | listed, .one i :: rest => Region.ready .any ops listed = [i] ∧ PlanR ops (listed.setIfInBounds i true) rest
  | listed, .two i j :: rest => (∃ oi oj, ops[i]? = some oi ∧ ops[j]? = some oj ∧ isMake oi = true ∧ isMake oj = true) ∧ Region.ready .any ops listed = [i, j] ∧
      Region.ready .any ops (listed.setIfInBounds i true) = [j] ∧ Region.ready .any ops (listed.setIfInBounds j true) = [i] ∧ PlanR ops ((listed.setIfInBounds i true).setIfInBounds j true) rest

theorem map_some {α β : Type} {f : α → β} {x : Option α} {y : β} (h : x.map f = some y) : ∃ a, x = some a ∧ f a = y := by
  cases x with
  | none => simp at h
  | some a => exact ⟨a, rfl, by simpa using h⟩

theorem aPlan_ok : ∀ (n : Nat) {listed : Array Bool} {steps : List Step}, aPlan ops n listed = some steps → PlanR ops listed steps ∧ stepCount steps ≤ n
  | n, listed, steps, h => by
    induction n using Nat.strongRecOn generalizing listed steps with
    | _ n ih =>
      cases n with
      | zero =>
        simp only [aPlan] at h
        split at h
        · rename_i hr
          simp only [Option.some.injEq] at h
          subst h
          exact ⟨hr, Nat.le_refl _⟩
        · cases h
      | succ n =>
        simp only [aPlan] at h
        split at h
        · rename_i hr
          simp only [Option.some.injEq] at h
          subst h
          exact ⟨hr, Nat.zero_le _⟩
        · rename_i hr
          split at h
          · rename_i i hf
            obtain ⟨rest, h1, rfl⟩ := map_some h
            obtain ⟨k1, k2⟩ := ih n (by omega) _ _ h1
            have hm := List.mem_of_find?_eq_some hf
            have hp := List.find?_some hf
            cases ho : ops[i]? with
            | none => simp [ho] at hp
            | some o =>
              simp only [ho, Bool.and_eq_true] at hp
              exact ⟨⟨⟨o, ho, hp.1⟩, hm, hp.2, k1⟩, by simp [stepCount]; exact k2⟩
          · split at h
            · rename_i i hri
              obtain ⟨rest, h1, rfl⟩ := map_some h
              obtain ⟨k1, k2⟩ := ih n (by omega) _ _ h1
              exact ⟨⟨hri, k1⟩, by simp [stepCount]; exact k2⟩
            · rename_i i j hri
              split at h
              · rename_i oi oj m hoi hoj
                cases hc : (isMake oi && isMake oj && (Region.ready .any ops (listed.setIfInBounds i true) == [j]) && (Region.ready .any ops (listed.setIfInBounds j true) == [i])) with
                | false => simp [hc] at h
                | true =>
                  simp only [hc, cond_true] at h
                  simp only [Bool.and_eq_true, beq_iff_eq] at hc
                  obtain ⟨rest, h1, rfl⟩ := map_some h
                  obtain ⟨k1, k2⟩ := ih m (by omega) _ _ h1
                  exact ⟨⟨⟨oi, oj, hoi, hoj, hc.1.1.1, hc.1.1.2⟩, hri, hc.1.2, hc.2, k1⟩, by simp [stepCount]; exact k2⟩
              · cases h
            · cases h

variable {B0 : Nat} {W0 : World} {Q : Exit → Act → World → Prop}

/-- What was seen is to be seen. -/
def Fact (P : Program) (ν : Nu) (s : Seen) (w : World) : Prop := ∀ av u, cvV ν s.a = some av → cvV ν s.v = some u → (Instr.loadAt s.t av).run P w = .ok u w

structure SeenR (P : Program) (ops : Array Oper) (ν : Nu) (s : Seen) (w : World) : Prop where
  has : ∃ av u, cvV ν s.a = some av ∧ cvV ν s.v = some u
  fact : Fact P ν s w
  after : ∀ m ∈ s.ds, m = s.i ∨ Aft ops s.i m

/-- As long as no operation that may turn memory, and that waits for it, has come up, what was seen is to be seen. -/
def Inv (P : Program) (ops : Array Oper) (ν : Nu) (ls : List Seen) (l : Array Bool) (w : World) : Prop :=
  ∀ s ∈ ls, (∀ k o, l.getD k false = true → ops[k]? = some o → quietKind o.op = false → ¬ Aft ops s.i k) → Fact P ν s w

theorem Fact.back {ν ν' : Nu} (hle : ν.le ν') {s : Seen} {w : World} (hs : ∃ av u, cvV ν s.a = some av ∧ cvV ν s.v = some u) (h : Fact P ν' s w) : Fact P ν s w := by
  obtain ⟨av, u, h1, h2⟩ := hs
  intro av' u' h1' h2'
  exact h av' u' (cvV_mono hle h1') (cvV_mono hle h2')

theorem still_ok {ν : Nu} {h : H} {w : World} (g : Ga B0 W0 ν h w) : ∀ {ls : List Seen}, stillSeen P h ls = true → ∀ s ∈ ls, (∃ av, cvV ν s.a = some av) → Fact P ν s w ∧ ∃ u, cvV ν s.v = some u
  | [], _, s, hs, _ => by cases hs
  | x :: l, h1, s, hs, ⟨av0, hav0⟩ => by
    simp only [stillSeen, Bool.and_eq_true] at h1
    rcases List.mem_cons.1 hs with rfl | hs
    · split at h1
      · rename_i v hv
        simp only [decide_eq_true_eq] at h1
        obtain ⟨u, k1, k2⟩ := load_ok (P := P) g hv hav0
        have hvv := h1.1
        subst hvv
        refine ⟨fun av u' h2 h3 => ?_, u, k1⟩
        rw [hav0] at h2
        obtain rfl := Option.some.inj h2
        rw [k1] at h3
        obtain rfl := Option.some.inj h3
        exact k2
      · simp at h1
    · exact still_ok g h1.2 s hs ⟨av0, hav0⟩

theorem waits_aft {o : Oper} {k : Nat} (ho : ops[k]? = some o) {s : Seen} (hds : ∀ m ∈ s.ds, m = s.i ∨ Aft ops s.i m) (h : waits o s.ds = true) : Aft ops s.i k := by
  simp only [waits, List.any_eq_true] at h
  obtain ⟨m, hm, h⟩ := h
  obtain ⟨e, he, h⟩ := Array.any_eq_true'.1 h
  simp only [Bool.and_eq_true, beq_iff_eq] at h
  rcases hds m hm with rfl | hd
  · exact .one ho he h.1 h.2
  · exact .more ho he h.1 h.2 hd

/-- What is carried on once operation k has come up. -/
theorem unwaited_mem {k : Nat} {o : Oper} (ho : ops[k]? = some o) {ls : List Seen} (hds : ∀ s ∈ ls, ∀ m ∈ s.ds, m = s.i ∨ Aft ops s.i m) :
    (∀ s ∈ unwaited k o ls, (∀ m ∈ s.ds, m = s.i ∨ Aft ops s.i m) ∧ ∃ s' ∈ ls, s.i = s'.i ∧ s.t = s'.t ∧ s.a = s'.a ∧ s.v = s'.v) ∧
    (∀ s ∈ ls, (∃ s' ∈ unwaited k o ls, s'.i = s.i ∧ s'.t = s.t ∧ s'.a = s.a ∧ s'.v = s.v) ∨ (quietKind o.op = false ∧ Aft ops s.i k)) := by
  unfold unwaited
  cases hq : quietKind o.op with
  | true =>
    simp only [cond_true]
    refine ⟨fun s hs => ?_, fun s hs => ?_⟩
    · obtain ⟨s', h1, h2⟩ := List.mem_map.1 hs
      cases hw : waits o s'.ds with
      | true =>
        simp only [hw, cond_true] at h2
        subst h2
        exact ⟨fun m hm => by
          rcases List.mem_cons.1 hm with rfl | hm
          · exact .inr (waits_aft (s := s') ho (hds s' h1) hw)
          · exact hds s' h1 m hm, s', h1, rfl, rfl, rfl, rfl⟩
      | false =>
        simp only [hw, cond_false] at h2
        subst h2
        exact ⟨hds s' h1, s', h1, rfl, rfl, rfl, rfl⟩
    · refine .inl ⟨_, List.mem_map.2 ⟨s, hs, rfl⟩, ?_⟩
      cases hw : waits o s.ds <;> simp
  | false =>
    simp only [cond_false]
    refine ⟨fun s hs => ?_, fun s hs => ?_⟩
    · have h1 := (List.mem_filter.1 hs).1
      exact ⟨hds s h1, s, h1, rfl, rfl, rfl, rfl⟩
    · cases hw : waits o s.ds with
      | true => exact .inr ⟨trivial, waits_aft ho (hds s hs) hw⟩
      | false => exact .inl ⟨s, List.mem_filter.2 ⟨hs, by simp [hw]⟩, rfl, rfl, rfl, rfl⟩

theorem Fact.eqv {ν : Nu} {s s' : Seen} {w : World} (ht : s.t = s'.t) (ha : s.a = s'.a) (hv : s.v = s'.v) (h : Fact P ν s w) : Fact P ν s' w := by
  unfold Fact at *
  rw [← ht, ← ha, ← hv]
  exact h

theorem quiet_ok {ν : Nu} {f : F} {h : H} {a : Act} {w : World} (s : St B0 W0 ν f h a w) {i : Nat} {o : Oper} {v : V} {l : List Seen} (e : aQuiet P f h i o.op = some (v, l)) :
    ∃ u, cvV ν v = some u ∧ ((l = [] ∧ ∀ w, (execOp a.eval o).run P w = .ok (.value u) w) ∨
      ∃ x, l = [x] ∧ x.i = i ∧ x.ds = [i] ∧ (∃ av, cvV ν x.a = some av) ∧ cvV ν x.v = some u ∧ Fact P ν x w ∧ ∀ w, Fact P ν x w → (execOp a.eval o).run P w = .ok (.value u) w) := by
  obtain ⟨dst, op, ty, pos, af, gd⟩ := o
  unfold aQuiet at e
  simp only at e
  split at e
  · rename_i v' hp
    simp only [Option.some.injEq, Prod.mk.injEq] at e
    obtain ⟨rfl, rfl⟩ := e
    obtain ⟨u, k1, k2⟩ := pure_ok (P := P) (o := ⟨dst, op, ty, pos, af, gd⟩) s.fr hp
    exact ⟨u, k1, .inl ⟨rfl, k2⟩⟩
  · split at e
    · rename_i t x
      split at e
      · rename_i va hx
        obtain ⟨v', h1, h2⟩ := map_some e
        simp only [Prod.mk.injEq] at h2
        obtain ⟨rfl, rfl⟩ := h2
        have hav := ev_ok s.fr hx
        obtain ⟨u, k1, k2⟩ := load_ok (P := P) s.ga h1 hav
        refine ⟨u, k1, .inr ⟨_, rfl, rfl, rfl, ⟨_, hav⟩, k1, fun av u' j1 j2 => ?_, fun w hf => ?_⟩⟩
        · simp only at j1 j2
          rw [hav] at j1
          rw [k1] at j2
          rw [← Option.some.inj j1, ← Option.some.inj j2]
          exact k2
        · have := hf _ _ hav k1
          simp only at this
          simp [execOp, this]
      · cases e
    · cases e

theorem make_ok {ν : Nu} {f : F} {h : H} {a : Act} {w : World} (s : St B0 W0 ν f h a w) {i : Nat} {o : Oper} (ho : ops[i]? = some o) (hm : isMake o = true) {f' : F} {h' : H} (e : aMake P f h o = some (f', h')) {K : Act → World → Prop}
    (hK : ∀ ν' a' w', ν.le ν' → St B0 W0 ν' f' h' a' w' → K a' w') : wpOp P ops Q i K a w := by
  unfold wpOp
  simp only [ho]
  have hg : o.guard = none := by
    unfold isMake at hm
    split at hm
    · rfl
    · cases hm
  simp only [Region.wanted, hg, if_true]
  unfold aMake at e
  split at e
  · rename_i v h1 hmem
    obtain ⟨f1, h2, h3⟩ := map_some e
    simp only [Prod.mk.injEq] at h3
    obtain ⟨rfl, rfl⟩ := h3
    obtain ⟨u, ν', w', hy, k2, k3, k4⟩ := mem_ok (P := P) s.ga s.fr hmem
    have hst : St B0 W0 ν' f1 h1 (a.put o.dst u) w' := ⟨k3, put_ok (s.fr.mono k2) h2 k4, by rw [put_defers]; exact s.df⟩
    refine .inl ?_
    unfold Oper.wp
    rcases hy with hy | ⟨hy, rfl⟩
    · rw [hy]; exact hK ν' _ w' k2 hst
    · rw [hy]; exact hK ν' _ w' k2 hst
  · cases e

theorem drawn_ok {ih : Task → F → H → Option Res} (ihc : ∀ g args f h res, ih (.call g args) f h = some res → SoundCall P B0 W0 g args h res.v res.h) (hsel : Region.noSelect ops = true) (hQ : ∀ c a w, ¬ Q (.panic c) a w) {f' : F} {h' : H} :
    ∀ (steps : List Step) (n : Nat) {listed : Array Bool} {ν : Nu} {f : F} {h : H} {a : Act} {w : World} {ls : List Seen}, PlanR ops listed steps → Closed ops listed → St B0 W0 ν f h a w → (∀ s ∈ ls, SeenR P ops ν s w) →
      aDrawn P ih ops steps f h ls = some (f', h') → (∀ ν' a' w', ν.le ν' → St B0 W0 ν' f' h' a' w' → Q .normal a' w') → wpAnyI P ops Q (Inv P ops ν ls) (stepCount steps + n) listed a w
  | [], n, listed, ν, f, h, a, w, ls, hp, hc, s, hls, e, hpost => by
    simp only [aDrawn, Option.some.injEq, Prod.mk.injEq] at e
    obtain ⟨rfl, rfl⟩ := e
    have hi : Inv P ops ν ls listed w := fun x hx _ => (hls x hx).fact
    have hq := hpost ν a w (Nu.le_refl ν) s
    have hp' : Region.ready .any ops listed = [] := hp
    cases n with
    | zero => exact ⟨hi, hp', hq⟩
    | succ n =>
      simp only [stepCount, Nat.zero_add]
      exact ⟨hi, fun _ => hq, fun i hi => by rw [hp'] at hi; cases hi⟩
  | .q i :: rest, n, listed, ν, f, h, a, w, ls, hp, hc, s, hls, e, hpost => by
    obtain ⟨⟨o, ho, hk⟩, hr, hfree, hp'⟩ := hp
    simp only [aDrawn, ho] at e
    have hc' := hc.set hr
    have hsp := Region.noSelect_spec hsel
    have hfr := Region.free_spec ho hfree
    have hnl := (mem_ready.1 hr).1
    have hilt : i < listed.size := by
      rw [hc.1]
      exact (Array.getElem?_eq_some_iff.1 ho).1
    obtain ⟨hu1, hu2⟩ := unwaited_mem ho (ls := ls) (fun x hx => (hls x hx).after)
    -- what is carried on
    have hls2 : ∀ x ∈ unwaited i o ls, SeenR P ops ν x w := fun x hx => by
      obtain ⟨k1, x', k2, k3, k4, k5, k6⟩ := hu1 x hx
      have := hls x' k2
      exact ⟨by rw [k5, k6]; exact this.has, this.fact.eqv k4.symm k5.symm k6.symm, k1⟩
    have hinv : ∀ (l0 : List Seen) (l : Array Bool) (w : World), Inv P ops ν (l0 ++ unwaited i o ls) (l.setIfInBounds i true) w → Inv P ops ν ls l w := fun l0 l w hi x hx hno => by
      rcases hu2 x hx with ⟨x', k1, k2, k3, k4, k5⟩ | ⟨k1, _⟩
      · refine (hi x' (List.mem_append_right _ k1) fun k o' hk' ho' hq' => ?_).eqv k3 k4 k5
        rw [k2]
        by_cases hki : i = k
        · subst hki
          rw [ho] at ho'
          obtain rfl := Option.some.inj ho'
          rw [hk] at hq'
          cases hq'
        · rw [getD_set_ne false hki] at hk'
          exact hno k o' hk' ho' hq'
      · rw [hk] at k1
        cases k1
    have hcount : stepCount (.q i :: rest) + n = (stepCount rest + n) + 1 := by simp only [stepCount]; omega
    rw [hcount]
    cases hw : aWanted f ops o with
    | true =>
      simp only [hw, cond_true] at e
      split at e
      · rename_i v l hqq
        split at e
        · rename_i f1 hf
          obtain ⟨u, hu, hcase⟩ := quiet_ok (P := P) s hqq
          have hst : St B0 W0 ν f1 h (a.put o.dst u) w := ⟨s.ga, put_ok s.fr hf hu, by rw [put_defers]; exact s.df⟩
          rcases hcase with ⟨rfl, hrun⟩ | ⟨x, rfl, x1, x2, x3, x4, x5, x6⟩
          · have H := drawn_ok ihc hsel hQ rest n hp' hc' hst hls2 e hpost
            have H' := firstI (J := fun _ => True) ho hsp hQ (fun _ _ _ _ _ => trivial) _ listed a w hc hfr hr (.inl ⟨by rw [wanted_ok s.fr]; exact hw, fun w _ => hrun w⟩) H
            exact wpAnyI_mono (K := fun _ => True) (fun _ _ _ => trivial) (fun l w _ hi => hinv [] l w (by simpa using hi)) _ trivial H'
          · have hxl : SeenR P ops ν x w := ⟨by obtain ⟨av, hav⟩ := x3; exact ⟨av, u, hav, x4⟩, x5, fun m hm => by rw [x2] at hm; rw [x1]; exact .inl (List.mem_singleton.1 hm)⟩
            have hls3 : ∀ y ∈ [x] ++ unwaited i o ls, SeenR P ops ν y w := fun y hy => by
              rcases List.mem_append.1 hy with hy | hy
              · rw [List.mem_singleton.1 hy]; exact hxl
              · exact hls2 y hy
            have H := drawn_ok ihc hsel hQ rest n hp' hc' hst hls3 e hpost
            have H' := firstI (J := Fact P ν x) ho hsp hQ (fun l w hcl hil hi => by
              refine hi x (by simp) fun k o' hk' ho' hq' haft => ?_
              rw [x1] at haft
              by_cases hki : i = k
              · subst hki
                rw [ho] at ho'
                obtain rfl := Option.some.inj ho'
                rw [hk] at hq'
                cases hq'
              · rw [getD_set_ne false hki] at hk'
                have h1 := haft.listed hcl hk'
                rcases Nat.lt_or_ge i l.size with h' | h'
                · simp [h'] at h1 hil; rw [h1] at hil; cases hil
                · simp [Array.getElem?_eq_none h'] at h1) _ listed a w hc hfr hr (.inl ⟨by rw [wanted_ok s.fr]; exact hw, fun w hw => x6 w hw⟩) H
            exact wpAnyI_mono (K := fun _ => True) (fun _ _ _ => trivial) (fun l w _ hi => hinv [x] l w hi) _ trivial H'
        · cases e
      · cases e
    | false =>
      simp only [hw, cond_false] at e
      split at e
      · rename_i f1 hf
        have hst : St B0 W0 ν f1 h (a.put o.dst undef) w := ⟨s.ga, put_ok s.fr hf undef_cv, by rw [put_defers]; exact s.df⟩
        have H := drawn_ok ihc hsel hQ rest n hp' hc' hst hls2 e hpost
        have H' := firstI (J := fun _ => True) ho hsp hQ (fun _ _ _ _ _ => trivial) _ listed a w hc hfr hr (.inr ⟨by rw [wanted_ok s.fr]; exact hw, rfl⟩) H
        exact wpAnyI_mono (K := fun _ => True) (fun _ _ _ => trivial) (fun l w _ hi => hinv [] l w (by simpa using hi)) _ trivial H'
      · cases e
  | .one i :: rest, n, listed, ν, f, h, a, w, ls, hp, hc, s, hls, e, hpost => by
    obtain ⟨hr, hp'⟩ := hp
    have hri : i ∈ Region.ready .any ops listed := by rw [hr]; simp
    have hc' := hc.set hri
    obtain ⟨_, o, ho, _⟩ := mem_ready.1 hri
    have hilt : i < listed.size := by
      rw [hc.1]
      exact (Array.getElem?_eq_some_iff.1 ho).1
    simp only [aDrawn, ho] at e
    obtain ⟨hu1, hu2⟩ := unwaited_mem ho (ls := ls) (fun x hx => (hls x hx).after)
    have hcount : stepCount (.one i :: rest) + n = (stepCount rest + n) + 1 := by simp only [stepCount]; omega
    rw [hcount]
    -- what holds behind it holds of what was carried
    have hinv : ∀ (ν' : Nu), ν.le ν' → ∀ (l : Array Bool) (w : World), l.getD i false = true → Inv P ops ν' (unwaited i o ls) l w → Inv P ops ν ls l w := fun ν' hle l w hl hi x hx hno => by
      rcases hu2 x hx with ⟨x', k1, k2, k3, k4, k5⟩ | ⟨k1, k2⟩
      · exact ((hi x' k1 fun k o' hk' ho' hq' => by rw [k2]; exact hno k o' hk' ho' hq').eqv k3 k4 k5).back hle (hls x hx).has
      · exact absurd k2 (hno i o hl ho k1)
    have keepK : ∀ (l : Array Bool) (j : Nat), l.getD i false = true → (l.setIfInBounds j true).getD i false = true := fun l j hl => getD_set_true hl
    refine ⟨fun x hx _ => (hls x hx).fact, fun h => (by rw [h] at hri; cases hri), fun j hj => ?_⟩
    rw [hr] at hj
    obtain rfl := List.mem_singleton.1 hj
    unfold wpOp
    simp only [ho]
    rw [wanted_ok s.fr]
    cases hw : aWanted f ops o with
    | true =>
      simp only [hw, cond_true] at e
      simp only [if_true]
      split at e
      · rename_i v h1 hop
        cases hst : stillSeen P h1 (unwaited j o ls) with
        | false => simp [hst] at e
        | true =>
          simp only [hst, cond_true] at e
          split at e
          · rename_i f1 hf
            refine .inl (oper_ok ihc s.ga s.fr hop fun u ν' w' k1 k2 k3 => ?_)
            have hs' : St B0 W0 ν' f1 h1 (a.put o.dst u) w' := ⟨k2, put_ok (s.fr.mono k1) hf k3, by rw [put_defers]; exact s.df⟩
            have hls' : ∀ x ∈ unwaited j o ls, SeenR P ops ν' x w' := fun x hx => by
              obtain ⟨i1, x', i2, i3, i4, i5, i6⟩ := hu1 x hx
              obtain ⟨av, uu, j1, j2⟩ := (hls x' i2).has
              obtain ⟨m1, m2⟩ := still_ok (P := P) k2 hst x hx ⟨av, by rw [i5]; exact cvV_mono k1 j1⟩
              exact ⟨⟨av, uu, by rw [i5]; exact cvV_mono k1 j1, by rw [i6]; exact cvV_mono k1 j2⟩, m1, i1⟩
            have H := drawn_ok ihc hsel hQ rest n hp' hc' hs' hls' e fun ν2 a2 w2 q1 q2 => hpost ν2 a2 w2 (Nu.le_trans k1 q1) q2
            exact wpAnyI_mono (K := fun l => l.getD j false = true) keepK (fun l w hl hi => hinv ν' k1 l w hl hi) _ (getD_set_same hilt) H
          · cases e
      · cases e
    | false =>
      simp only [hw, cond_false] at e
      simp only [Bool.false_eq_true, if_false]
      split at e
      · rename_i f1 hf
        have hs' : St B0 W0 ν f1 h (a.put o.dst undef) w := ⟨s.ga, put_ok s.fr hf undef_cv, by rw [put_defers]; exact s.df⟩
        have hls' : ∀ x ∈ unwaited j o ls, SeenR P ops ν x w := fun x hx => by
          obtain ⟨i1, x', i2, i3, i4, i5, i6⟩ := hu1 x hx
          have := hls x' i2
          exact ⟨by rw [i5, i6]; exact this.has, this.fact.eqv i4.symm i5.symm i6.symm, i1⟩
        have H := drawn_ok ihc hsel hQ rest n hp' hc' hs' hls' e hpost
        exact wpAnyI_mono (K := fun l => l.getD j false = true) keepK (fun l w hl hi => hinv ν (Nu.le_refl ν) l w hl hi) _ (getD_set_same hilt) H
      · cases e
  | .two i j :: rest, n, listed, ν, f, h, a, w, ls, hp, hc, s, hls, e, hpost => by
    obtain ⟨⟨oi, oj, hoi, hoj, hmi, hmj⟩, hr, hr1, hr2, hp'⟩ := hp
    have hri : i ∈ Region.ready .any ops listed := by rw [hr]; simp
    have hrj : j ∈ Region.ready .any ops listed := by rw [hr]; simp
    have hci := hc.set hri
    have hcj := hc.set hrj
    have hcij := hci.set (i := j) (by rw [hr1]; simp)
    have hcji := hcj.set (i := i) (by rw [hr2]; simp)
    have hcomm : (listed.setIfInBounds j true).setIfInBounds i true = (listed.setIfInBounds i true).setIfInBounds j true := by
      by_cases hij : i = j
      · subst hij; rfl
      · rw [Array.setIfInBounds_comm _ _ (fun e => hij e.symm)]
    simp only [aDrawn, hoi, hoj] at e
    split at e
    · rename_i f1 h1 e1
      split at e
      · rename_i f2 h2 e2
        split at e
        · rename_i f3 h3 e3
          split at e
          · rename_i f4 h4 e4
            cases hcond : (decide (f4 = f2 ∧ h4.t = h2.t) && stillSeen P h1 ls && stillSeen P h2 ls && stillSeen P h3 ls) with
            | false => simp only [hcond, cond_false, reduceCtorEq] at e
            | true =>
              simp only [hcond, cond_true] at e
              simp only [Bool.and_eq_true, decide_eq_true_eq] at hcond
              obtain ⟨⟨⟨⟨c1, c2⟩, c3⟩, c4⟩, c5⟩ := hcond
              have hcount : stepCount (.two i j :: rest) + n = (stepCount rest + n) + 1 + 1 := by simp only [stepCount]; omega
              rw [hcount]
              have seen : ∀ {ν' : Nu} {hh : H} {w' : World}, ν.le ν' → Ga B0 W0 ν' hh w' → stillSeen P hh ls = true → ∀ x ∈ ls, SeenR P ops ν' x w' := fun {ν' hh w'} hle gg hs x hx => by
                obtain ⟨av, uu, j1, j2⟩ := (hls x hx).has
                obtain ⟨m1, m2⟩ := still_ok (P := P) gg hs x hx ⟨av, cvV_mono hle j1⟩
                exact ⟨⟨av, uu, cvV_mono hle j1, cvV_mono hle j2⟩, m1, (hls x hx).after⟩
              have invb : ∀ {ν' : Nu}, ν.le ν' → ∀ (l : Array Bool) (w : World), Inv P ops ν' ls l w → Inv P ops ν ls l w := fun {ν'} hle l w hi x hx hno => (hi x hx hno).back hle (hls x hx).has
              have fin : ∀ {ν' : Nu} {a' : Act} {w' : World}, ν.le ν' → St B0 W0 ν' f2 h2 a' w' → wpAnyI P ops Q (Inv P ops ν ls) (stepCount rest + n) ((listed.setIfInBounds i true).setIfInBounds j true) a' w' := fun {ν' a' w'} hle s' => by
                have H := drawn_ok ihc hsel hQ rest n hp' hcij s' (seen hle s'.ga c4) e fun ν2 a2 w2 q1 q2 => hpost ν2 a2 w2 (Nu.le_trans hle q1) q2
                exact wpAnyI_mono (K := fun _ => True) (fun _ _ _ => trivial) (fun l w _ hi => invb hle l w hi) _ trivial H
              refine ⟨fun x hx _ => (hls x hx).fact, fun h => (by rw [h] at hri; cases hri), fun k hk => ?_⟩
              rw [hr] at hk
              rcases List.mem_cons.1 hk with rfl | hk
              · refine make_ok (P := P) s hoi hmi e1 fun ν1 a1 w1 l1 s1 => ?_
                refine ⟨fun x hx _ => ((seen l1 s1.ga c3 x hx).fact).back l1 (hls x hx).has, fun h => (by rw [h] at hr1; cases hr1), fun k' hk' => ?_⟩
                rw [hr1] at hk'
                obtain rfl := List.mem_singleton.1 hk'
                exact make_ok (P := P) s1 hoj hmj e2 fun ν2 a2 w2 l2 s2 => fin (Nu.le_trans l1 l2) s2
              · obtain rfl := List.mem_singleton.1 hk
                have s0 : St B0 W0 ν f { h with next := h.next + 1 } a w := ⟨s.ga.congr fun _ => rfl, s.fr, s.df⟩
                refine make_ok (P := P) s0 hoj hmj e3 fun ν1 a1 w1 l1 s1 => ?_
                refine ⟨fun x hx _ => ((seen l1 s1.ga c5 x hx).fact).back l1 (hls x hx).has, fun h => (by rw [h] at hr2; cases hr2), fun k' hk' => ?_⟩
                rw [hr2] at hk'
                obtain rfl := List.mem_singleton.1 hk'
                have s1' : St B0 W0 ν1 f3 { h3 with next := h.next } a1 w1 := ⟨s1.ga.congr fun _ => rfl, s1.fr, s1.df⟩
                refine make_ok (P := P) s1' hoi hmi e4 fun ν2 a2 w2 l2 s2 => ?_
                rw [hcomm]
                refine fin (Nu.le_trans l1 l2) ⟨s2.ga.congr fun m => ?_, by rw [← c1]; exact s2.fr, s2.df⟩
                unfold H.get
                rw [c2]
          · cases e
        · cases e
      · cases e
    · cases e

theorem drawn_region {ih : Task → F → H → Option Res} (hm : P.follows .mixedOrders = true) (ihc : ∀ g args f h res, ih (.call g args) f h = some res → SoundCall P B0 W0 g args h res.v res.h) (hsel : Region.noSelect ops = true) {f f' : F} {h h' : H} {steps : List Step}
    (hplan : aPlan ops ops.size (Array.replicate ops.size false) = some steps) {ν : Nu} {a : Act} {w : World} (s : St B0 W0 ν f h a w) (e : aDrawn P ih ops steps f h [] = some (f', h')) {id : Nat}
    (hpost : ∀ ν' a' w', ν.le ν' → St B0 W0 ν' f' h' a' w' → Q .normal a' w') : (Code.region id ops true).wp P Q a w := by
  obtain ⟨hp, hc⟩ := aPlan_ok _ hplan
  have hclosed : Closed ops (Array.replicate ops.size false) := ⟨by simp, fun k o _ hk => by
    simp only [Array.getD_eq_getD_getElem?, Array.getElem?_replicate] at hk
    split at hk <;> simp at hk⟩
  have s' : St B0 W0 ν f h a { w with drawn := w.drawn + 1 } := ⟨s.ga.drew, s.fr, s.df⟩
  have hwp : (Code.region id ops true).wp P (fun e a w => e = .normal ∧ Q .normal a w) a w := by
    refine wp_region_any hm ?_
    have H := drawn_ok (Q := fun e a w => e = .normal ∧ Q .normal a w) ihc hsel (fun c a w hh => by cases hh.1) steps (ops.size - stepCount steps) hp hclosed s' (ls := []) (fun _ hx => by cases hx) e (fun ν' a' w' k1 k2 => ⟨rfl, hpost ν' a' w' k1 k2⟩)
    have hn : stepCount steps + (ops.size - stepCount steps) = ops.size := by omega
    rw [hn] at H
    exact wpAnyI_any _ H
  exact wp_mono hwp fun e a w hh => by rw [hh.1]; exact hh.2

end
end Ai
end Go.Proofs.YtjmhkcfdmcjilaaGreat
