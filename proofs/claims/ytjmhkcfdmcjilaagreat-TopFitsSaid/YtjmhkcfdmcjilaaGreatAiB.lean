/-
  The reckoner's control: regions that draw their order, code, loops, calls.
-/
import Derived.Test.YtjmhkcfdmcjilaaGreatAiA
namespace Go.Proofs.YtjmhkcfdmcjilaaGreat
namespace Ai
section
variable (P : Program)

inductive Step where
  | q (i : Nat)
  | one (i : Nat)
  | two (i j : Nat)
  deriving Inhabited

/-- Kinds of operations that may be taken ahead of others. -/
def quietKind : Op → Bool
  | .move _ | .assign _ | .pick .. | .binOp .. | .unOp .. | .convert .. | .fieldAddr .. | .field .. | .indexAddr .. | .index .. | .slice .. | .extract ..
  | .build .. | .makeInterface .. | .makeFunc .. | .nilCheck _ | .load .. => true
  | .call { callee := .builtin b, .. } => match b with
    | .len | .cap | .min | .max => true
    | _ => false
  | _ => false

def isMake : Oper → Bool
  | { op := .makeSlice .., guard := none, .. } => true
  | _ => false

def aPlan (ops : Array Oper) : Nat → Array Bool → Option (List Step)
  | 0, listed => match Region.ready .any ops listed with
    | [] => some []
    | _ => none
  | n + 1, listed =>
    match Region.ready .any ops listed with
    | [] => some []
    | r => match r.find? (fun i => match ops[i]? with
        | some o => quietKind o.op && Region.free .any ops listed i
        | none => false) with
      | some i => (aPlan ops n (listed.setIfInBounds i true)).map (.q i :: ·)
      | none => match r with
        | [i] => (aPlan ops n (listed.setIfInBounds i true)).map (.one i :: ·)
        | [i, j] => match ops[i]?, ops[j]?, n with
          | some oi, some oj, m + 1 => cond (isMake oi && isMake oj && (Region.ready .any ops (listed.setIfInBounds i true) == [j]) && (Region.ready .any ops (listed.setIfInBounds j true) == [i]))
            ((aPlan ops m ((listed.setIfInBounds i true).setIfInBounds j true)).map (.two i j :: ·)) none
          | _, _, _ => none
        | _ => none

/-- What was loaded ahead of others, and from where; 'ds': the operation, and those that have come up and wait for it. -/
structure Seen where
  i : Nat
  t : TypeId
  a : V
  v : V
  ds : List Nat

def stillSeen (h : H) : List Seen → Bool
  | [] => true
  | s :: l => (match aLoad P h s.t s.a with
    | some v => decide (v = s.v)
    | none => false) && stillSeen h l

def waits (o : Oper) (ds : List Nat) : Bool := ds.any fun m => o.after.any fun e => Region.binds .any e && e.on == m

/-- What is still to be seen, once operation 'k' has come up. -/
def unwaited (k : Nat) (o : Oper) (ls : List Seen) : List Seen :=
  cond (quietKind o.op) (ls.map fun s => cond (waits o s.ds) { s with ds := k :: s.ds } s) (ls.filter fun s => !waits o s.ds)

def aQuiet (f : F) (h : H) (i : Nat) (o : Op) : Option (V × List Seen) :=
  match aPure P f o with
  | some v => some (v, [])
  | none => match o with
    | .load t x => match f.ev x with
      | some a => (aLoad P h t a).map fun v => (v, [⟨i, t, a, v, [i]⟩])
      | none => none
    | _ => none

def aMake (f : F) (h : H) (o : Oper) : Option (F × H) :=
  match aMem P f h o.op with
  | some (v, h') => (f.put o.dst v).map fun f' => (f', h')
  | none => none

def aDrawn (ih : Task → F → H → Option Res) (ops : Array Oper) : List Step → F → H → List Seen → Option (F × H)
  | [], f, h, _ => some (f, h)
  | .q i :: rest, f, h, ls => match ops[i]? with
    | none => none
    | some o => cond (aWanted f ops o)
      (match aQuiet P f h i o.op with
        | some (v, l) => match f.put o.dst v with
          | some f' => aDrawn ih ops rest f' h (l ++ unwaited i o ls)
          | none => none
        | none => none)
      (match f.put o.dst undefV with
        | some f' => aDrawn ih ops rest f' h (unwaited i o ls)
        | none => none)
  | .one i :: rest, f, h, ls => match ops[i]? with
    | none => none
    | some o => cond (aWanted f ops o)
      (match aOper P ih f h o.op with
        | some (v, h') => cond (stillSeen P h' (unwaited i o ls)) (match f.put o.dst v with
          | some f' => aDrawn ih ops rest f' h' (unwaited i o ls)
          | none => none) none
        | none => none)
      (match f.put o.dst undefV with
        | some f' => aDrawn ih ops rest f' h (unwaited i o ls)
        | none => none)
  | .two i j :: rest, f, h, ls => match ops[i]?, ops[j]? with
    | some oi, some oj =>
      match aMake P f h oi with
      | some (f1, h1) => match aMake P f1 h1 oj with
        | some (f2, h2) => match aMake P f { h with next := h.next + 1 } oj with
          | some (f3, h3) => match aMake P f3 { h3 with next := h.next } oi with
            | some (f4, h4) => cond (decide (f4 = f2 ∧ h4.t = h2.t) && stillSeen P h1 ls && stillSeen P h2 ls && stillSeen P h3 ls) (aDrawn ih ops rest f2 h2 ls) none
            | none => none
          | none => none
        | none => none
      | none => none
    | _, _ => none

/-- What stands in for some functions (proved apart). -/
abbrev Nat' := FuncId → List V → H → Option (Option (V × H))

/-- internal/bytealg.Count. -/
def aCount (l : List V) (h : H) : Option (V × H) :=
  match l with
  | [b, .w (.s (.i .u8 (.ofNat c)))] => match b with
    | .w (.s (.sl _ _ len _ _)) => match aFirst h 1 len b with
      | some l => match aToBytes l with
        | some bs => some (.w (.s (.i .i64 (bs.foldl (fun n x => if x == c.toUInt8 then n + 1 else n) (0 : Nat)))), h)
        | none => none
      | none => none
    | _ => none
  | _ => none

/-- internal/bytealg.MakeNoZero. -/
def aMakeNoZero (elem : TypeId) (l : List V) (h : H) : Option (V × H) :=
  match l with
  | [.w (.s (.i .i64 (.ofNat n)))] => cond (Nat.blt n top) (match h.new (.row n (.leaf .any) elem 1 true) with
    | some (b, h') => some (.w (.s (.sl b 0 n n true)), h')
    | none => none) none
  | _ => none

/-- nand.fill, of a whole row. -/
def aFillAll (l : List V) (h : H) : Option (V × H) :=
  match l with
  | [.w (.s (.sl b off len _ _)), .w (.s (.i .u8 x))] => match h.get b with
    | .row k _ e z o => cond (Nat.beq off 0 && Nat.beq len k) (some (.t [], h.put b (.row k (.leaf (.i .u8 x)) e z o))) none
    | _ => none
  | _ => none

def crcBit (c : Nat) : Nat := cond (Nat.beq (Nat.land c 1) 1) (Nat.xor (Nat.shiftRight c 1) 3988292384) (Nat.shiftRight c 1)
def crcByte (c : Nat) (x : UInt8) : Nat := crcBit (crcBit (crcBit (crcBit (crcBit (crcBit (crcBit (crcBit (Nat.xor c x.toNat))))))))
def crcOf : Nat → List UInt8 → Nat
  | c, [] => c
  | c, x :: l => crcOf (crcByte c x) l

/-- All of them bytes. -/
def smallL : List S → Bool
  | [] => true
  | .i .u8 (.ofNat n) :: l => Nat.blt n 256 && smallL l
  | _ => false

/-- crc.More. -/
def aCrc (l : List V) (h : H) : Option (V × H) :=
  match l with
  | [.w (.s (.i .u32 (.ofNat s))), .w (.s (.sl b off len c o))] => match aFirst h 1 len (.w (.s (.sl b off len c o))) with
    | some l => match aToBytes l with
      | some bs => cond (Nat.blt s 4294967296 && Nat.blt len top && smallL l) (some (.w (.s (.i .u32 (Nat.xor (crcOf (Nat.xor s 4294967295) bs) 4294967295))), h)) none
      | none => none
    | none => none
  | _ => none

def step (nat : Nat') (ih : Task → F → H → Option Res) : Task → F → H → Option Res
  | .call g args, f, h => match nat g args h with
    | some (some (v, h')) => some ⟨.normal, f, h', v⟩
    | some none => none
    | none => match P.funcs[g]? with
      | some fn => match fn.body with
        | some c => cond (Nat.blt (args.length + fn.ntmps) top && Nat.ble args.length fn.ntmps)
          (match ih (.code c) ⟨fn.ntmps, Tr.ofArgs 0 args (.leaf undefV)⟩ h with
            | some ⟨.exit _, _, _, _⟩ => none
            | some ⟨_, f', h', _⟩ => (aOut P f' h' fn.results.toList).map fun v => ⟨.normal, f, h', v⟩
            | none => none) none
        | none => none
      | none => none
  | .loop c, f, h => match ih (.code c) f h with
    | some ⟨.normal, f', h', _⟩ => ih (.loop c) f' h'
    | r => r
  | .code c, f, h => match c with
    | .skip => some ⟨.normal, f, h, undefV⟩
    | .ret => some ⟨.ret, f, h, undefV⟩
    | .exit id => some ⟨.exit id, f, h, undefV⟩
    | .seq a b => match ih (.code a) f h with
      | some ⟨.normal, f', h', _⟩ => ih (.code b) f' h'
      | r => r
    | .cond x a b => match f.ev x with
      | some (.w (.s (.b t))) => ih (.code (cond t a b)) f h
      | _ => none
    | .block id a => match ih (.code a) f h with
      | some ⟨.exit id', f', h', v⟩ => cond (Nat.beq id' id) (some ⟨.normal, f', h', v⟩) (some ⟨.exit id', f', h', v⟩)
      | r => r
    | .loop a => ih (.loop a) f h
    | .region _ ops false => (aOps P ih ops ops.toList f h).map fun r => ⟨.normal, r.1, r.2, undefV⟩
    | .region _ ops true => match aPlan ops ops.size (Array.replicate ops.size false) with
      | some steps => cond (Region.noSelect ops) ((aDrawn P ih ops steps f h []).map fun r => ⟨.normal, r.1, r.2, undefV⟩) none
      | none => none
    | _ => none

def run (nat : Nat') (n : Nat) : Task → F → H → Option Res :=
  Nat.rec (fun _ _ _ => none) (fun _ ih => step P nat ih) n

def natT : Nat' := fun g l h => match g with
  | 124 => some (aCount l h)
  | 117 => some (aMakeNoZero 5 l h)
  | 102 => some (aFillAll l h)
  | 92 => some (aCrc l h)
  | _ => none

def isTrue' : Option Res → Bool
  | some ⟨_, _, _, .w (.s (.b true))⟩ => true
  | _ => false

def isSome' : Option Res → Bool
  | some _ => true
  | _ => false

end
end Ai
end Go.Proofs.YtjmhkcfdmcjilaaGreat
