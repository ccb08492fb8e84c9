/-
  The reckoner once more, dealt out so that the kernel reckons fast: what depends on the code alone comes first, values go on to what follows. It is the same: 'runK_eq'.
-/
import Derived.Test.YtjmhkcfdmcjilaaGreatAiB
namespace Go.Proofs.YtjmhkcfdmcjilaaGreat
namespace Ai
section
variable {β : Type}

noncomputable def Tr.getR {α : Type} (t : Tr α) : Nat → α :=
  @Tr.rec α (fun _ => Nat → α) (fun a _ => a) (fun a _ _ gl gr i => @Nat.rec (fun _ => α) a (fun k _ => @Bool.rec (fun _ => α) (gr (Nat.div k 2)) (gl (Nat.div k 2)) (Nat.beq (Nat.mod k 2) 0)) i) t

theorem Tr.getR_eq {α : Type} : ∀ (t : Tr α) (i : Nat), t.getR i = t.get i
  | .leaf a, i => by rw [Tr.get.eq_1]; rfl
  | .node a l r, 0 => rfl
  | .node a l r, k + 1 => by
    show @Bool.rec (fun _ => α) (r.getR (k / 2)) (l.getR (k / 2)) (Nat.beq (k % 2) 0) = cond (Nat.beq (k % 2) 0) (l.get (k / 2)) (r.get (k / 2))
    rw [Tr.getR_eq l, Tr.getR_eq r]
    cases Nat.beq (k % 2) 0 <;> rfl

noncomputable def Tr.setR {α : Type} (d : Nat) : Tr α → Nat → α → (Tr α → β) → β :=
  @Nat.rec (fun _ => Tr α → Nat → α → (Tr α → β) → β) (fun t _ _ k => k t)
    (fun _ ih t i x k => @Nat.rec (fun _ => β)
      (@Tr.rec α (fun _ => β) (fun a => k (.node x (.leaf a) (.leaf a))) (fun _ l r _ _ => k (.node x l r)) t)
      (fun m _ => @Tr.rec α (fun _ => β)
        (fun a => @Bool.rec (fun _ => β) (ih (.leaf a) (Nat.div m 2) x fun r => k (.node a (.leaf a) r)) (ih (.leaf a) (Nat.div m 2) x fun l => k (.node a l (.leaf a))) (Nat.beq (Nat.mod m 2) 0))
        (fun a l r _ _ => @Bool.rec (fun _ => β) (ih r (Nat.div m 2) x fun r => k (.node a l r)) (ih l (Nat.div m 2) x fun l => k (.node a l r)) (Nat.beq (Nat.mod m 2) 0)) t) i) d

theorem Tr.setR_eq {α : Type} : ∀ (d : Nat) (t : Tr α) (i : Nat) (x : α) (k : Tr α → β), Tr.setR d t i x k = k (Tr.set d t i x)
  | 0, t, i, x, k => by
    rw [Tr.set.eq_1]; rfl
  | d + 1, .leaf a, 0, x, k => rfl
  | d + 1, .node a l r, 0, x, k => rfl
  | d + 1, .leaf a, m + 1, x, k => by
    show @Bool.rec (fun _ => β) (Tr.setR d (.leaf a) (m / 2) x fun r => k (.node a (.leaf a) r)) (Tr.setR d (.leaf a) (m / 2) x fun l => k (.node a l (.leaf a))) (Nat.beq (m % 2) 0) = _
    rw [Tr.setR_eq d, Tr.setR_eq d]
    simp only [Tr.set, Tr.left, Tr.right, Tr.val]
    cases Nat.beq (m % 2) 0 <;> rfl
  | d + 1, .node a l r, m + 1, x, k => by
    show @Bool.rec (fun _ => β) (Tr.setR d r (m / 2) x fun r => k (.node a l r)) (Tr.setR d l (m / 2) x fun l => k (.node a l r)) (Nat.beq (m % 2) 0) = _
    rw [Tr.setR_eq d, Tr.setR_eq d]
    simp only [Tr.set, Tr.left, Tr.right, Tr.val]
    cases Nat.beq (m % 2) 0 <;> rfl

/-- Something that the kernel reckons once. -/
structure Bx (α : Type) where
  out : α

noncomputable def bK (b : Bool) (x z : β) : β := @Bool.rec (fun _ => β) z x b
theorem bK_eq (b : Bool) (x z : β) : bK b x z = cond b x z := by cases b <;> rfl

/-- An operand's value. -/
noncomputable def evK (x : Operand) : Bx (F → (V → β) → β → β) :=
  match x with
  | .tmp t => ⟨fun f k _ => @F.rec (fun _ => β) (fun _ tr => @V.rec (fun _ => β) (fun x => k (.w x)) (fun l => k (.t l)) (tr.getR t)) f⟩
  | .const v => match absV v with
    | some u => ⟨fun _ k _ => k u⟩
    | none => ⟨fun _ _ z => z⟩
  | .func g => ⟨fun _ k _ => k (.w (.s (.f g [])))⟩
  | .global _ => ⟨fun _ _ z => z⟩

def opt {α : Type} (o : Option α) (k : α → β) (z : β) : β :=
  match o with
  | some a => k a
  | none => z

theorem evK_eq (x : Operand) (f : F) (k : V → β) (z : β) : (evK x).out f k z = opt (f.ev x) k z := by
  cases x with
  | const v =>
    simp only [evK, F.ev]
    cases absV v <;> rfl
  | tmp t =>
    obtain ⟨n, tr⟩ := f
    show @V.rec (fun _ => β) (fun x => k (.w x)) (fun l => k (.t l)) (tr.getR t) = k (tr.get t)
    rw [Tr.getR_eq]
    cases tr.get t <;> rfl
  | _ => rfl

/-- A value that has been reckoned is put. -/
noncomputable def putK (d : Nat) (v : V) (f : F) (k : F → β) (z : β) : β :=
  @F.rec (fun _ => β) (fun n t => bK (Nat.ble (Nat.succ d) n) (bK (Nat.ble (Nat.succ n) top) (Tr.setR 16 t d v fun t => k ⟨n, t⟩) z) z) f

theorem putK_eq (d : Nat) (v : V) (f : F) (k : F → β) (z : β) : putK d v f k z = opt (f.put (some d) v) k z := by
  obtain ⟨n, t⟩ := f
  show bK (Nat.ble (Nat.succ d) n) (bK (Nat.ble (Nat.succ n) top) (Tr.setR 16 t d v fun t => k ⟨n, t⟩) z) z = opt (cond (Nat.blt d n && Nat.blt n top) (fV v fun x => Tr.setK 16 t d x fun t => some (⟨n, t⟩ : F)) none) k z
  rw [fV_eq, Tr.setK_eq, Tr.setR_eq, bK_eq, bK_eq]
  have e1 : Nat.blt d n = Nat.ble (Nat.succ d) n := rfl
  have e2 : Nat.blt n top = Nat.ble (Nat.succ n) top := rfl
  rw [e1, e2]
  cases Nat.ble (Nat.succ d) n <;> cases Nat.ble (Nat.succ n) top <;> rfl

def vIntP (v : V) : Option (IntKind × Int) :=
  match v with
  | .w (.s (.i q n)) => some (q, n)
  | _ => none

noncomputable def intK (v : V) (k : IntKind → Int → β) (z : β) : β :=
  @V.rec (fun _ => β) (fun w => @W.rec (fun _ => β) (fun s => @S.rec (fun _ => β) (fun _ => z) (fun q n => k q n) (fun _ => z) (fun _ _ => z) z (fun _ _ _ _ _ => z) (fun _ _ _ => z) z (fun _ => z) z (fun _ _ => z) z (fun _ _ => z) z z s) (fun _ => z) w) (fun _ => z) v

theorem intK_eq (v : V) (k : IntKind → Int → β) (z : β) : intK v k z = opt (vIntP v) (fun p => k p.1 p.2) z := by
  cases v with
  | t l => rfl
  | w w => cases w with
    | a l => rfl
    | s s => cases s <;> rfl

def vPtrP (v : V) : Option (Nat × Nat) :=
  match v with
  | .w (.s (.p n off)) => some (n, off)
  | _ => none

noncomputable def ptrK (v : V) (k : Nat → Nat → β) (z : β) : β :=
  @V.rec (fun _ => β) (fun w => @W.rec (fun _ => β) (fun s => @S.rec (fun _ => β) (fun _ => z) (fun _ _ => z) (fun _ => z) (fun n off => k n off) z (fun _ _ _ _ _ => z) (fun _ _ _ => z) z (fun _ => z) z (fun _ _ => z) z (fun _ _ => z) z z s) (fun _ => z) w) (fun _ => z) v

theorem ptrK_eq (v : V) (k : Nat → Nat → β) (z : β) : ptrK v k z = opt (vPtrP v) (fun p => k p.1 p.2) z := by
  cases v with
  | t l => rfl
  | w w => cases w with
    | a l => rfl
    | s s => cases s <;> rfl

theorem opt_some {α : Type} {o : Option α} {k : α → β} {z : β} : opt o k z = z ∨ ∃ a, o = some a ∧ opt o k z = k a := by
  cases o with
  | none => exact .inl rfl
  | some a => exact .inr ⟨a, rfl, rfl⟩

/-- What two ints come to. -/
def iopK (op : BinOp) : Bx (IntKind → Int → Int → (S → β) → β → β) :=
  match op with
  | .add => ⟨fun q m n k _ => fI (wrapF q (m + n)) fun r => k (.i q r)⟩
  | .sub => ⟨fun q m n k _ => fI (wrapF q (m - n)) fun r => k (.i q r)⟩
  | .mul => ⟨fun q m n k _ => fI (wrapF q (m * n)) fun r => k (.i q r)⟩
  | .eql => ⟨fun _ m n k _ => fB (iEq m n) fun b => k (.b b)⟩
  | .neq => ⟨fun _ m n k _ => fB (!(iEq m n)) fun b => k (.b b)⟩
  | .lss => ⟨fun _ m n k _ => fB (iLt m n) fun b => k (.b b)⟩
  | .leq => ⟨fun _ m n k _ => fB (!(iLt n m)) fun b => k (.b b)⟩
  | .gtr => ⟨fun _ m n k _ => fB (iLt n m) fun b => k (.b b)⟩
  | .geq => ⟨fun _ m n k _ => fB (!(iLt m n)) fun b => k (.b b)⟩
  | _ => ⟨fun _ _ _ _ z => z⟩

theorem iopK_ok (op : BinOp) (q : IntKind) (m n : Int) (k : S → β) (z : β) : (iopK op).out q m n k z = z ∨ ∃ s, isShift op = false ∧ aIntOp op q m n = some s ∧ (iopK op).out q m n k z = k s := by
  cases op
  case add => exact .inr ⟨_, rfl, rfl, by simp only [iopK, fI_eq]⟩
  case sub => exact .inr ⟨_, rfl, rfl, by simp only [iopK, fI_eq]⟩
  case mul => exact .inr ⟨_, rfl, rfl, by simp only [iopK, fI_eq]⟩
  case eql => exact .inr ⟨_, rfl, rfl, by simp only [iopK, fB_eq]⟩
  case neq => exact .inr ⟨_, rfl, rfl, by simp only [iopK, fB_eq]⟩
  case lss => exact .inr ⟨_, rfl, rfl, by simp only [iopK, fB_eq]⟩
  case leq => exact .inr ⟨_, rfl, rfl, by simp only [iopK, fB_eq]⟩
  case gtr => exact .inr ⟨_, rfl, rfl, by simp only [iopK, fB_eq]⟩
  case geq => exact .inr ⟨_, rfl, rfl, by simp only [iopK, fB_eq]⟩
  all_goals exact .inl rfl

variable (P : Program)

/-- Where a field lies, if that can be told. -/
def fieldOff (s : TypeId) (fi : Nat) : Option Nat :=
  match P.underlying s with
  | some (.struct fs) => match fs[fi]? with
    | some f => match sizeT P f.type with
      | some (_ + 1) => some f.offset
      | _ => none
    | none => none
  | _ => none

theorem fieldOff_ok {s : TypeId} {fi off n o : Nat} (h : fieldOff P s fi = some off) : aFieldAddr P s (.w (.s (.p n o))) fi = some (.w (.s (.p n (o + off)))) := by
  unfold fieldOff at h
  unfold aFieldAddr
  cases hu : P.underlying s with
  | none => simp [hu] at h
  | some d =>
    cases d <;> simp only [hu, reduceCtorEq] at h
    rename_i fs
    cases hf : fs[fi]? with
    | none => simp [hf] at h
    | some f =>
      simp only [hf] at h
      cases hz : sizeT P f.type with
      | none => simp [hz] at h
      | some z =>
        cases z with
        | zero => simp [hz] at h
        | succ z =>
          simp only [hz, Option.some.injEq] at h
          simp only [hf, hz, h]

/-- The elements' size of a slice's type. -/
def elemSize (t : TypeId) : Option Nat :=
  match P.underlying t with
  | some (.slice e) => sizeT P e
  | _ => none

def vSlP (v : V) : Option (Nat × Nat × Nat) :=
  match v with
  | .w (.s (.sl n off len _ _)) => some (n, off, len)
  | _ => none

noncomputable def slK (v : V) (k : Nat → Nat → Nat → β) (z : β) : β :=
  @V.rec (fun _ => β) (fun w => @W.rec (fun _ => β) (fun s => @S.rec (fun _ => β) (fun _ => z) (fun _ _ => z) (fun _ => z) (fun _ _ => z) z (fun n off len _ _ => k n off len) (fun _ _ _ => z) z (fun _ => z) z (fun _ _ => z) z (fun _ _ => z) z z s) (fun _ => z) w) (fun _ => z) v

theorem slK_eq (v : V) (k : Nat → Nat → Nat → β) (z : β) : slK v k z = opt (vSlP v) (fun p => k p.1 p.2.1 p.2.2) z := by
  cases v with
  | t l => rfl
  | w w => cases w with
    | a l => rfl
    | s s => cases s <;> rfl

noncomputable def natK (x : Int) (k : Nat → β) (z : β) : β := @Int.rec (fun _ => β) (fun n => k n) (fun _ => z) x

/-- A row. -/
noncomputable def rowK (h : H) (n : Nat) (k : Nat → Tr S → β) (z : β) : β :=
  @H.rec (fun _ => β) (fun t _ => @B.rec (fun _ => β) z z (fun q r _ _ _ => k q r) (fun _ _ => z) (t.getR n)) h

def rowP (h : H) (n : Nat) : Option (Nat × Tr S) :=
  match h.get n with
  | .row q r _ _ _ => some (q, r)
  | _ => none

theorem rowK_eq (h : H) (n : Nat) (k : Nat → Tr S → β) (z : β) : rowK h n k z = opt (rowP h n) (fun p => k p.1 p.2) z := by
  obtain ⟨t, m⟩ := h
  show @B.rec (fun _ => β) z z (fun q r _ _ _ => k q r) (fun _ _ => z) (t.getR n) = opt (rowP ⟨t, m⟩ n) (fun p => k p.1 p.2) z
  rw [Tr.getR_eq]
  have : rowP ⟨t, m⟩ n = (match t.get n with | .row q r _ _ _ => some (q, r) | _ => none) := rfl
  rw [this]
  cases t.get n <;> rfl

/-- One operation, if it is one of those that come up most: 'k' goes on, 'z' stands where it is not. -/
noncomputable def opK (o : Op) (dst : Option Tmp) : Bx (F → H → (F → H → β) → β → β) :=
  match dst with
  | none => ⟨fun _ _ _ z => z⟩
  | some d => match o with
    | .move x => ⟨fun f h k z => (evK x).out f (fun v => putK d v f (fun f' => k f' h) z) z⟩
    | .assign x => ⟨fun f h k z => (evK x).out f (fun v => putK d v f (fun f' => k f' h) z) z⟩
    | .binOp op _ x y _ => ⟨fun f h k z => (evK x).out f (fun a => intK a (fun q m => (evK y).out f (fun b => intK b (fun q' n =>
        bK (kEq q q') ((iopK op).out q m n (fun s => putK d (.w (.s s)) f (fun f' => k f' h) z) z) z) z) z) z) z⟩
    | .fieldAddr s x fi => match fieldOff P s fi with
      | some off => ⟨fun f h k z => (evK x).out f (fun a => ptrK a (fun n o => fN (Nat.add o off) fun o' => putK d (.w (.s (.p n o'))) f (fun f' => k f' h) z) z) z⟩
      | none => ⟨fun _ _ _ z => z⟩
    | .indexAddr t x i => match elemSize P t with
      | some s => ⟨fun f h k z => (evK x).out f (fun a => slK a (fun n off len => (evK i).out f (fun b => intK b (fun _ j => natK j (fun j =>
          bK (Nat.ble (Nat.succ j) len) (fN (Nat.add off (Nat.mul j s)) fun o' => putK d (.w (.s (.p n o'))) f (fun f' => k f' h) z) z) z) z) z) z) z⟩
      | none => ⟨fun _ _ _ z => z⟩
    | .load t x => match isAggT P t, sizeT P t with
      | some false, some _ => ⟨fun f h k z => (evK x).out f (fun a => ptrK a (fun n off => rowK h n (fun q r => bK (Nat.ble (Nat.succ off) q) (fS (r.getR off) fun c => bK (okS c) (putK d (.w (.s c)) f (fun f' => k f' h) z) z) z) z) z) z⟩
      | _, _ => ⟨fun _ _ _ z => z⟩
    | .nilCheck x => ⟨fun f h k z => (evK x).out f (fun a => ptrK a (fun n off => putK d (.w (.s (.p n off))) f (fun f' => k f' h) z) z) z⟩
    | _ => ⟨fun _ _ _ z => z⟩

theorem opK_ok {ih : Task → F → H → Option Res} (o : Op) (dst : Option Tmp) (f : F) (h : H) (k : F → H → β) (z : β) :
    (opK P o dst).out f h k z = z ∨ ∃ v f', aOper P ih f h o = some (v, h) ∧ f.put dst v = some f' ∧ (opK P o dst).out f h k z = k f' h := by
  have viaPure : ∀ {v : V}, aPure P f o = some v → aOper P ih f h o = some (v, h) := fun hp => by
    unfold aOper
    rw [hp]
  cases dst with
  | none => exact .inl rfl
  | some d =>
    have fin' : ∀ {v : V} {r : β}, aOper P ih f h o = some (v, h) → r = opt (f.put (some d) v) (fun f' => k f' h) z → (r = z ∨ ∃ v f', aOper P ih f h o = some (v, h) ∧ f.put (some d) v = some f' ∧ r = k f' h) := fun {v r} hp hr => by
      subst hr
      rcases opt_some (o := f.put (some d) v) (k := fun f' => k f' h) (z := z) with h1 | ⟨f', h1, h2⟩
      · exact .inl h1
      · exact .inr ⟨v, f', hp, h1, h2⟩
    cases o <;> (try exact .inl rfl)
    case move x =>
      cases hx : f.ev x with
      | none => exact .inl (by simp only [opK, evK_eq, hx, opt])
      | some v =>
        refine fin' (v := v) (viaPure hx) ?_
        simp only [opK, evK_eq, hx, opt, putK_eq]
    case assign x =>
      cases hx : f.ev x with
      | none => exact .inl (by simp only [opK, evK_eq, hx, opt])
      | some v =>
        refine fin' (v := v) (viaPure hx) ?_
        simp only [opK, evK_eq, hx, opt, putK_eq]
    case binOp op t x y yt =>
      cases hx : f.ev x with
      | none => exact .inl (by simp only [opK, evK_eq, hx, opt])
      | some va =>
        cases ha : vIntP va with
        | none => exact .inl (by simp only [opK, evK_eq, hx, opt, intK_eq, ha])
        | some pa =>
          obtain ⟨q, m⟩ := pa
          cases hy : f.ev y with
          | none => exact .inl (by simp only [opK, evK_eq, hx, hy, opt, intK_eq, ha])
          | some vb =>
            cases hb : vIntP vb with
            | none => exact .inl (by simp only [opK, evK_eq, hx, hy, opt, intK_eq, ha, hb])
            | some pb =>
              obtain ⟨q', n⟩ := pb
              cases hk : kEq q q' with
              | false => exact .inl (by simp only [opK, evK_eq, hx, hy, opt, intK_eq, ha, hb, bK_eq, hk, cond_false])
              | true =>
                have e0 : (opK P (.binOp op t x y yt) (some d)).out f h k z = (iopK op).out q m n (fun s => putK d (.w (.s s)) f (fun f' => k f' h) z) z := by
                  simp only [opK, evK_eq, hx, hy, opt, intK_eq, ha, hb, bK_eq, hk, cond_true]
                rw [e0]
                rcases iopK_ok op q m n (fun s => putK d (.w (.s s)) f (fun f' => k f' h) z) z with h1 | ⟨s, h1, h2, h3⟩
                · exact .inl h1
                · have e1 : va = .w (.s (.i q m)) := by
                    unfold vIntP at ha
                    split at ha
                    · simp only [Option.some.injEq, Prod.mk.injEq] at ha; rw [ha.1, ha.2]
                    · cases ha
                  have e2 : vb = .w (.s (.i q' n)) := by
                    unfold vIntP at hb
                    split at hb
                    · simp only [Option.some.injEq, Prod.mk.injEq] at hb; rw [hb.1, hb.2]
                    · cases hb
                  subst e1; subst e2
                  refine fin' (v := .w (.s s)) (viaPure ?_) (by rw [h3, putK_eq])
                  simp only [aPure, hx, hy, aBin, h1, hk, cond_true, cond_false, h2, Option.map_some]
    case fieldAddr s x fi =>
      cases hoff : fieldOff P s fi with
      | none => exact .inl (by simp only [opK, hoff])
      | some off =>
        cases hx : f.ev x with
        | none => exact .inl (by simp only [opK, hoff, evK_eq, hx, opt])
        | some va =>
          cases ha : vPtrP va with
          | none => exact .inl (by simp only [opK, hoff, evK_eq, hx, opt, ptrK_eq, ha])
          | some pa =>
            obtain ⟨n, o⟩ := pa
            have e1 : va = .w (.s (.p n o)) := by
              unfold vPtrP at ha
              split at ha
              · simp only [Option.some.injEq, Prod.mk.injEq] at ha; rw [ha.1, ha.2]
              · cases ha
            subst e1
            refine fin' (v := .w (.s (.p n (o + off)))) (viaPure (by simp only [aPure, hx, fieldOff_ok P hoff])) ?_
            simp only [opK, hoff, evK_eq, hx, opt, ptrK_eq, ha, fN_eq, putK_eq]
            rfl
    case indexAddr t x i =>
      cases hes : elemSize P t with
      | none => exact .inl (by simp only [opK, hes])
      | some s =>
        cases hx : f.ev x with
        | none => exact .inl (by simp only [opK, hes, evK_eq, hx, opt])
        | some va =>
          cases ha : vSlP va with
          | none => exact .inl (by simp only [opK, hes, evK_eq, hx, opt, slK_eq, ha])
          | some pa =>
            obtain ⟨n, off, len⟩ := pa
            cases hi : f.ev i with
            | none => exact .inl (by simp only [opK, hes, evK_eq, hx, hi, opt, slK_eq, ha])
            | some vb =>
              cases hb : vIntP vb with
              | none => exact .inl (by simp only [opK, hes, evK_eq, hx, hi, opt, slK_eq, ha, intK_eq, hb])
              | some pb =>
                obtain ⟨q, j⟩ := pb
                cases j with
                | negSucc j => exact .inl (by simp only [opK, hes, evK_eq, hx, hi, opt, slK_eq, ha, intK_eq, hb]; rfl)
                | ofNat j =>
                  cases hl : Nat.ble (Nat.succ j) len with
                  | false => exact .inl (by simp only [opK, hes, evK_eq, hx, hi, opt, slK_eq, ha, intK_eq, hb, natK, bK_eq, hl, cond_false])
                  | true =>
                    obtain ⟨c, oo, e1⟩ : ∃ c oo, va = .w (.s (.sl n off len c oo)) := by
                      unfold vSlP at ha
                      split at ha
                      · simp only [Option.some.injEq, Prod.mk.injEq] at ha; rw [ha.1, ha.2.1, ha.2.2]; exact ⟨_, _, rfl⟩
                      · cases ha
                    have e2 : vb = .w (.s (.i q (.ofNat j))) := by
                      unfold vIntP at hb
                      split at hb
                      · simp only [Option.some.injEq, Prod.mk.injEq] at hb; rw [hb.1, hb.2]
                      · cases hb
                    subst e1; subst e2
                    have hia : aIndexAddr P t (.w (.s (.sl n off len c oo))) (.w (.s (.i q (.ofNat j)))) = some (.w (.s (.p n (off + j * s)))) := by
                      unfold elemSize at hes
                      cases hu : P.underlying t with
                      | none => simp [hu] at hes
                      | some dd =>
                        cases dd <;> simp only [hu, reduceCtorEq] at hes
                        have hl' : Nat.blt j len = true := hl
                        simp only [aIndexAddr, hu, vNat, hes, hl', cond_true]
                    refine fin' (v := .w (.s (.p n (off + j * s)))) (viaPure (by simp only [aPure, hx, hi, hia])) ?_
                    simp only [opK, hes, evK_eq, hx, hi, opt, slK_eq, ha, intK_eq, hb, natK, bK_eq, hl, cond_true, fN_eq, putK_eq]
                    rfl
    case load t x =>
      cases hag : isAggT P t with
      | none => exact .inl (by simp only [opK, hag])
      | some b =>
        cases hsz : sizeT P t with
        | none => exact .inl (by cases b <;> simp only [opK, hag, hsz])
        | some zz =>
          cases b with
          | true => exact .inl (by simp only [opK, hag, hsz])
          | false =>
            cases hx : f.ev x with
            | none => exact .inl (by simp only [opK, hag, hsz, evK_eq, hx, opt])
            | some va =>
              cases ha : vPtrP va with
              | none => exact .inl (by simp only [opK, hag, hsz, evK_eq, hx, opt, ptrK_eq, ha])
              | some pa =>
                obtain ⟨n, off⟩ := pa
                have e1 : va = .w (.s (.p n off)) := by
                  unfold vPtrP at ha
                  split at ha
                  · simp only [Option.some.injEq, Prod.mk.injEq] at ha; rw [ha.1, ha.2]
                  · cases ha
                subst e1
                cases hr : rowP h n with
                | none => exact .inl (by simp only [opK, hag, hsz, evK_eq, hx, opt, ptrK_eq, ha, rowK_eq, hr])
                | some pr =>
                  obtain ⟨q, r⟩ := pr
                  cases hl : Nat.ble (Nat.succ off) q with
                  | false => exact .inl (by simp only [opK, hag, hsz, evK_eq, hx, opt, ptrK_eq, ha, rowK_eq, hr, bK_eq, hl, cond_false])
                  | true =>
                    cases hok : okS (r.get off) with
                    | false => exact .inl (by simp only [opK, hag, hsz, evK_eq, hx, opt, ptrK_eq, ha, rowK_eq, hr, bK_eq, hl, cond_true, fS_eq, Tr.getR_eq, hok, cond_false])
                    | true =>
                      have hload : aLoad P h t (.w (.s (.p n off))) = some (.w (.s (r.get off))) := by
                        unfold rowP at hr
                        unfold aLoad
                        simp only
                        split at hr
                        · rename_i q' r' e' z' o' hn
                          simp only [Option.some.injEq, Prod.mk.injEq] at hr
                          obtain ⟨rfl, rfl⟩ := hr
                          have hl' : Nat.blt off q' = true := hl
                          simp only [hn, hag, hsz, hl', hok, Bool.and_self, cond_true]
                        · cases hr
                      refine fin' (v := .w (.s (r.get off))) ?_ ?_
                      · simp only [aOper, aPure, aMem, hx, hload, Option.map_some]
                      · simp only [opK, hag, hsz, evK_eq, hx, opt, ptrK_eq, ha, rowK_eq, hr, bK_eq, hl, cond_true, fS_eq, Tr.getR_eq, hok, putK_eq]
    case nilCheck x =>
      cases hx : f.ev x with
      | none => exact .inl (by simp only [opK, evK_eq, hx, opt])
      | some va =>
        cases ha : vPtrP va with
        | none => exact .inl (by simp only [opK, evK_eq, hx, opt, ptrK_eq, ha])
        | some pa =>
          obtain ⟨n, off⟩ := pa
          have e1 : va = .w (.s (.p n off)) := by
            unfold vPtrP at ha
            split at ha
            · simp only [Option.some.injEq, Prod.mk.injEq] at ha; rw [ha.1, ha.2]
            · cases ha
          subst e1
          refine fin' (v := .w (.s (.p n off))) (viaPure (by simp only [aPure, hx, aNilCheck])) ?_
          simp only [opK, evK_eq, hx, opt, ptrK_eq, ha, putK_eq]

/-- Is this operation wanted? -/
noncomputable def wantedK (ops : Array Oper) (o : Oper) : Bx (F → β → β → β) :=
  match o.guard with
  | none => ⟨fun _ x _ => x⟩
  | some (j, want) => match (ops[j]?).bind (·.dst) with
    | none => ⟨fun _ _ z => z⟩
    | some d => ⟨fun f x z => @F.rec (fun _ => β) (fun n t => bK (Nat.ble (Nat.succ d) n) (bK (vIs want (t.getR d)) x z) z) f⟩

theorem wantedK_eq (ops : Array Oper) (o : Oper) (f : F) (x z : β) : (wantedK ops o).out f x z = cond (aWanted f ops o) x z := by
  unfold wantedK aWanted
  cases o.guard with
  | none => rfl
  | some g =>
    obtain ⟨j, want⟩ := g
    simp only
    cases (ops[j]?).bind (·.dst) with
    | none => rfl
    | some d =>
      obtain ⟨n, t⟩ := f
      show bK (Nat.ble (Nat.succ d) n) (bK (vIs want (t.getR d)) x z) z = _
      rw [bK_eq, bK_eq, Tr.getR_eq]
      have e1 : Nat.blt d n = Nat.ble (Nat.succ d) n := rfl
      simp only [e1]
      cases Nat.ble (Nat.succ d) n <;> cases vIs want (t.get d) <;> rfl

/-- What a pure operation comes to, the memory as it was. -/
def pu (h : H) (r : Option V) : Option (V × H) :=
  match r with
  | some v => some (v, h)
  | none => none

/-- Any operation, its kind told first. -/
def operK (o : Op) : Bx ((Task → F → H → Option Res) → F → H → Option (V × H)) :=
  match o with
  | .store t x y => ⟨fun _ f h => match f.ev x, f.ev y with
    | some a, some b => (aStore P h t a b).map fun h' => (undefV, h')
    | _, _ => none⟩
  | .load t x => ⟨fun _ f h => match f.ev x with
    | some a => (aLoad P h t a).map fun v => (v, h)
    | none => none⟩
  | .alloc t => ⟨fun _ _ h => match zeroC P t with
    | some z => aNew P h t z
    | none => none⟩
  | .box t x => ⟨fun _ f h => match f.ev x with
    | some (.w u) => aNew P h t u.cells
    | _ => none⟩
  | .pick c a b => ⟨fun _ f h => pu h (match f.ev c with
    | some (.w (.s (.b t))) => match f.ev a, f.ev b with
      | some va, some vb => some (cond t va vb)
      | _, _ => none
    | _ => none)⟩
  | .binOp op t x y _ => ⟨fun _ f h => pu h (match f.ev x, f.ev y with
    | some a, some b => aBin P op t x y a b
    | _, _ => none)⟩
  | .unOp op _ x => ⟨fun _ f h => pu h (match f.ev x with
    | some a => aUn op a
    | none => none)⟩
  | .indexAddr t x i => ⟨fun _ f h => pu h (match f.ev x, f.ev i with
    | some a, some b => aIndexAddr P t a b
    | _, _ => none)⟩
  | .index t x i => ⟨fun _ f h => pu h (match f.ev x, f.ev i with
    | some a, some b => aIndex P t a b
    | _, _ => none)⟩
  | .extract x i => ⟨fun _ f h => pu h (match f.ev x with
    | some a => aExtract a i
    | none => none)⟩
  | .build t ps => ⟨fun _ f h => pu h (match f.evp ps.toList with
    | some l => aBuild P t l
    | none => none)⟩
  | .nilCheck x => ⟨fun _ f h => pu h (match f.ev x with
    | some a => aNilCheck a
    | none => none)⟩
  | .makeSlice t l c => ⟨fun _ f h => match f.ev l, f.ev c with
    | some a, some b => aMakeSlice P h t a b
    | _, _ => none⟩
  | .buildSlice t len ps => ⟨fun _ f h => match f.evp ps.toList with
    | some l => aBuildSlice P h t len l
    | none => none⟩
  | .call ⟨.value g, args, ats⟩ => ⟨fun ih f h => match aTarget P f ⟨.value g, args, ats⟩ with
    | some (g, args) => (ih (.call g args) f h).map fun r => (r.v, r.h)
    | none => none⟩
  | .call ⟨.invoke g m, args, ats⟩ => ⟨fun ih f h => match aTarget P f ⟨.invoke g m, args, ats⟩ with
    | some (g, args) => (ih (.call g args) f h).map fun r => (r.v, r.h)
    | none => none⟩
  | o => ⟨fun ih f h => aOper P ih f h o⟩

theorem operK_eq (o : Op) (ih : Task → F → H → Option Res) (f : F) (h : H) : (operK P o).out ih f h = aOper P ih f h o := by
  have fin : ∀ (r : Option V) (s : Option (V × H)), s = none → pu h r = (match r with | some v => some (v, h) | none => s) := fun r s hs => by subst hs; cases r <;> rfl
  cases o with
  | store t x y =>
    simp only [operK, aOper, aPure, aMem]
    cases f.ev x <;> cases f.ev y <;> simp only
    rename_i a b
    cases aStore P h t a b <;> rfl
  | load t x =>
    simp only [operK, aOper, aPure, aMem]
    cases f.ev x <;> simp only
    rename_i a
    cases aLoad P h t a <;> rfl
  | alloc t =>
    simp only [operK, aOper, aPure, aMem]
    cases zeroC P t <;> simp only
    rename_i z
    cases aNew P h t z <;> rfl
  | box t x =>
    simp only [operK, aOper, aPure, aMem]
    cases f.ev x with
    | none => rfl
    | some v => cases v with
      | t l => rfl
      | w u =>
        simp only
        cases aNew P h t u.cells <;> rfl
  | makeSlice t l c =>
    simp only [operK, aOper, aPure, aMem]
    cases f.ev l <;> cases f.ev c <;> simp only
    rename_i a b
    cases aMakeSlice P h t a b <;> rfl
  | buildSlice t len ps =>
    simp only [operK, aOper, aPure, aMem]
    cases f.evp ps.toList <;> simp only
    rename_i l
    cases aBuildSlice P h t len l <;> rfl
  | pick c a b => exact fin (aPure P f (.pick c a b)) none rfl
  | binOp op t x y yt => exact fin (aPure P f (.binOp op t x y yt)) none rfl
  | unOp op t x => exact fin (aPure P f (.unOp op t x)) none rfl
  | indexAddr t x i => exact fin (aPure P f (.indexAddr t x i)) none rfl
  | index t x i => exact fin (aPure P f (.index t x i)) none rfl
  | extract x i => exact fin (aPure P f (.extract x i)) none rfl
  | build t ps => exact fin (aPure P f (.build t ps)) none rfl
  | nilCheck x => exact fin (aPure P f (.nilCheck x)) none rfl
  | call c =>
    obtain ⟨callee, args, ats⟩ := c
    cases callee <;> rfl
  | _ => rfl

noncomputable def opsK (ops : Array Oper) : List Oper → Bx ((Task → F → H → Option Res) → F → H → Option (F × H))
  | [] => ⟨fun _ f h => some (f, h)⟩
  | o :: rest => ⟨fun ih f h =>
    (wantedK ops o).out f
      ((opK P o.op o.dst).out f h (fun f h => (opsK ops rest).out ih f h)
        (match (operK P o.op).out ih f h with
          | some (v, ⟨ht, nx⟩) => match f.put o.dst v with
            | some f' => (opsK ops rest).out ih f' ⟨ht, nx⟩
            | none => none
          | none => none))
      (match f.put o.dst undefV with
        | some f' => (opsK ops rest).out ih f' h
        | none => none)⟩

theorem opsK_eq (ops : Array Oper) : ∀ (l : List Oper) (ih : Task → F → H → Option Res) (f : F) (h : H), (opsK P ops l).out ih f h = aOps P ih ops l f h
  | [], ih, f, h => rfl
  | o :: rest, ih, f, h => by
    simp only [opsK, aOps, wantedK_eq, operK_eq]
    cases aWanted f ops o with
    | true =>
      simp only [cond_true]
      have slow : (match aOper P ih f h o.op with
          | some (v, ⟨ht, nx⟩) => match f.put o.dst v with
            | some f' => (opsK P ops rest).out ih f' ⟨ht, nx⟩
            | none => none
          | none => none) = (match aOper P ih f h o.op with
        | some (v, h') => match f.put o.dst v with
          | some f' => aOps P ih ops rest f' h'
          | none => none
        | none => none) := by
        cases aOper P ih f h o.op with
        | none => rfl
        | some r =>
          obtain ⟨v, ⟨ht, nx⟩⟩ := r
          simp only
          cases f.put o.dst v with
          | none => rfl
          | some f' => exact opsK_eq ops rest ih f' _
      rcases opK_ok (ih := ih) P o.op o.dst f h (fun f h => (opsK P ops rest).out ih f h) (match aOper P ih f h o.op with
          | some (v, ⟨ht, nx⟩) => match f.put o.dst v with
            | some f' => (opsK P ops rest).out ih f' ⟨ht, nx⟩
            | none => none
          | none => none) with h1 | ⟨v, f', h1, h2, h3⟩
      · rw [h1]
        exact slow
      · rw [h3]
        simp only [h1, h2]
        exact opsK_eq ops rest ih f' h
    | false =>
      simp only [cond_false]
      cases f.put o.dst undefV with
      | none => rfl
      | some f' => exact opsK_eq ops rest ih f' h

noncomputable def codeK (c : Code) : Bx ((Task → F → H → Option Res) → F → H → Option Res) :=
  match c with
  | .skip => ⟨fun _ f h => some ⟨.normal, f, h, undefV⟩⟩
  | .ret => ⟨fun _ f h => some ⟨.ret, f, h, undefV⟩⟩
  | .exit id => ⟨fun _ f h => some ⟨.exit id, f, h, undefV⟩⟩
  | .seq a b => ⟨fun ih f h => match ih (.code a) f h with
    | some ⟨.normal, f', h', _⟩ => ih (.code b) f' h'
    | r => r⟩
  | .cond x a b => ⟨fun ih f h => (evK x).out f (fun v => match v with
    | .w (.s (.b t)) => bK t (ih (.code a) f h) (ih (.code b) f h)
    | _ => none) none⟩
  | .block id a => ⟨fun ih f h => match ih (.code a) f h with
    | some ⟨.exit id', f', h', v⟩ => cond (Nat.beq id' id) (some ⟨.normal, f', h', v⟩) (some ⟨.exit id', f', h', v⟩)
    | r => r⟩
  | .loop a => ⟨fun ih f h => ih (.loop a) f h⟩
  | .region _ ops false => ⟨fun ih f h => match (opsK P ops ops.toList).out ih f h with
    | some (f', h') => some ⟨.normal, f', h', undefV⟩
    | none => none⟩
  | .region _ ops true => match aPlan ops ops.size (Array.replicate ops.size false) with
    | some steps => match Region.noSelect ops with
      | true => ⟨fun ih f h => (aDrawn P ih ops steps f h []).map fun r => ⟨.normal, r.1, r.2, undefV⟩⟩
      | false => ⟨fun _ _ _ => none⟩
    | none => ⟨fun _ _ _ => none⟩
  | _ => ⟨fun _ _ _ => none⟩

theorem codeK_eq (nat : Nat') (c : Code) (ih : Task → F → H → Option Res) (f : F) (h : H) : (codeK P c).out ih f h = step P nat ih (.code c) f h := by
  cases c with
  | cond x a b =>
    simp only [codeK, step, evK_eq]
    cases hx : f.ev x with
    | none => rfl
    | some v =>
      simp only [opt]
      cases v with
      | t l => rfl
      | w w => cases w with
        | a l => rfl
        | s s => cases s with
          | b t => cases t <;> rfl
          | _ => rfl
  | region id ops draw =>
    cases draw with
    | false =>
      simp only [codeK, step, opsK_eq]
      cases aOps P ih ops ops.toList f h <;> rfl
    | true =>
      simp only [codeK, step]
      cases aPlan ops ops.size (Array.replicate ops.size false) with
      | none => rfl
      | some steps => cases Region.noSelect ops <;> rfl
  | _ => rfl

/-- What a call enters with. -/
def enterK (g : FuncId) : Bx ((Task → F → H → Option Res) → List V → F → H → Option Res) :=
  match P.funcs[g]? with
  | some fn => match fn.body with
    | some c => ⟨fun ih args f h => cond (Nat.blt (args.length + fn.ntmps) top && Nat.ble args.length fn.ntmps)
        (match ih (.code c) ⟨fn.ntmps, Tr.ofArgs 0 args (.leaf undefV)⟩ h with
          | some ⟨.exit _, _, _, _⟩ => none
          | some ⟨_, f', h', _⟩ => match aOut P f' h' fn.results.toList with
            | some v => fV v fun v => some ⟨.normal, f, h', v⟩
            | none => none
          | none => none) none⟩
    | none => ⟨fun _ _ _ _ => none⟩
  | none => ⟨fun _ _ _ _ => none⟩

theorem enterK_eq (nat : Nat') (g : FuncId) (ih : Task → F → H → Option Res) (args : List V) (f : F) (h : H) (hn : nat g args h = none) : (enterK P g).out ih args f h = step P nat ih (.call g args) f h := by
  simp only [step, hn]
  unfold enterK
  cases P.funcs[g]? with
  | none => rfl
  | some fn =>
    simp only
    cases fn.body with
    | none => rfl
    | some c =>
      simp only
      congr 1
      generalize ih (.code c) ⟨fn.ntmps, Tr.ofArgs 0 args (.leaf undefV)⟩ h = q
      cases q with
      | none => rfl
      | some r =>
        obtain ⟨ee, ff, hh, vv⟩ := r
        cases ee with
        | exit id => rfl
        | normal =>
          simp only
          cases aOut P ff hh fn.results.toList with
          | none => rfl
          | some v => simp only [fV_eq, Option.map_some]
        | ret =>
          simp only
          cases aOut P ff hh fn.results.toList with
          | none => rfl
          | some v => simp only [fV_eq, Option.map_some]

noncomputable def stepK (nat : Nat') (ih : Task → F → H → Option Res) : Task → F → H → Option Res
  | .call g args, f, h => match nat g args h with
    | some (some (v, h')) => fV v fun v => some ⟨.normal, f, h', v⟩
    | some none => none
    | none => (enterK P g).out ih args f h
  | .loop c, f, h => match (codeK P c).out ih f h with
    | some ⟨.normal, f', h', _⟩ => ih (.loop c) f' h'
    | r => r
  | .code c, f, h => (codeK P c).out ih f h

noncomputable def runK (nat : Nat') (n : Nat) : Task → F → H → Option Res :=
  @Nat.rec (fun _ => Task → F → H → Option Res) (fun _ _ _ => none) (fun _ ih => stepK P nat ih) n

end
end Ai
end Go.Proofs.YtjmhkcfdmcjilaaGreat
