/-
  The reckoner's control: regions that draw their order, code, loops, calls.
-/
import Derived.Still
import Derived.Tactics
import Derived.LoopN
import Derived.Below
import Derived.Laws.AppendOwn
import Derived.Laws.MakeOwn
import Derived.Laws.CopyOwn
/- A reckoner for closed runs in a world that is not known: values, memory and operations with names in the place of blocks.
  Nothing is proved here; the texts behind it prove that what it reckons is what the program does. -/
namespace Go.Proofs.YtjmhkcfdmcjilaaGreat
namespace Ai

/-- A tree in the place of an array: a leaf says one thing of all numbers. -/
inductive Tr (α : Type) where
  | leaf (a : α)
  | node (a : α) (l r : Tr α)
  deriving DecidableEq, Inhabited

def Tr.get {α : Type} : Tr α → Nat → α
  | .leaf a, _ => a
  | .node a _ _, 0 => a
  | .node _ l r, k + 1 => cond (Nat.beq (k % 2) 0) (l.get (k / 2)) (r.get (k / 2))

def Tr.val {α : Type} : Tr α → α
  | .leaf a => a
  | .node a _ _ => a

def Tr.left {α : Type} : Tr α → Tr α
  | .leaf a => .leaf a
  | .node _ l _ => l

def Tr.right {α : Type} : Tr α → Tr α
  | .leaf a => .leaf a
  | .node _ _ r => r

def Tr.set {α : Type} : Nat → Tr α → Nat → α → Tr α
  | 0, t, _, _ => t
  | _ + 1, t, 0, x => .node x t.left t.right
  | d + 1, t, k + 1, x => cond (Nat.beq (k % 2) 0) (.node t.val (Tr.set d t.left (k / 2) x) t.right) (.node t.val t.left (Tr.set d t.right (k / 2) x))

/-- Setting a number, the tree built up at once ('k': what is done with it). -/
def Tr.setK {α β : Type} : Nat → Tr α → Nat → α → (Tr α → β) → β
  | 0, t, _, _, k => k t
  | _ + 1, t, 0, x, k => match t with
    | .leaf a => k (.node x (.leaf a) (.leaf a))
    | .node _ l r => k (.node x l r)
  | d + 1, t, m + 1, x, k => match t with
    | .leaf a => cond (Nat.beq (m % 2) 0) (Tr.setK d (.leaf a) (m / 2) x fun l => k (.node a l (.leaf a))) (Tr.setK d (.leaf a) (m / 2) x fun r => k (.node a (.leaf a) r))
    | .node a l r => cond (Nat.beq (m % 2) 0) (Tr.setK d l (m / 2) x fun l => k (.node a l r)) (Tr.setK d r (m / 2) x fun r => k (.node a l r))

theorem Tr.setK_eq {α β : Type} : ∀ (d : Nat) (t : Tr α) (i : Nat) (x : α) (k : Tr α → β), Tr.setK d t i x k = k (Tr.set d t i x)
  | 0, t, i, x, k => by simp [Tr.setK, Tr.set]
  | d + 1, t, 0, x, k => by cases t <;> simp [Tr.setK, Tr.set, Tr.left, Tr.right]
  | d + 1, t, m + 1, x, k => by
    cases t with
    | leaf a =>
      simp only [Tr.setK, Tr.set, Tr.left, Tr.right, Tr.val]
      cases Nat.beq (m % 2) 0 <;> simp only [cond_true, cond_false] <;> rw [Tr.setK_eq d]
    | node a l r =>
      simp only [Tr.setK, Tr.set, Tr.left, Tr.right, Tr.val]
      cases Nat.beq (m % 2) 0 <;> simp only [cond_true, cond_false] <;> rw [Tr.setK_eq d]

/-- What a closure has caught, or an interface holds. -/
inductive C where
  | p (n off : Nat)
  | i (k : IntKind) (x : Int)
  deriving DecidableEq, Inhabited

/-- What stands in one cell. -/
inductive S where
  | b (x : Bool)
  | i (k : IntKind) (x : Int)
  | s (l : List UInt8)
  | p (n off : Nat)
  | np
  | sl (n off len c : Nat) (o : Bool)
  | se (n off d : Nat)
  | nsl
  | m (n : Nat)
  | nm
  | f (g : FuncId) (cs : List C)
  | nf
  | fc (t : TypeId) (c : C)
  | ni
  | any
  deriving DecidableEq, Inhabited

inductive W where
  | s (x : S)
  | a (l : List S)
  deriving DecidableEq, Inhabited

inductive V where
  | w (x : W)
  | t (l : List W)
  deriving DecidableEq, Inhabited

inductive B where
  | none
  | dead
  | row (k : Nat) (t : Tr S) (e : TypeId) (z : Nat) (o : Bool)
  | map (es : List (W × W × Nat)) (clock : Nat)
  deriving DecidableEq, Inhabited

structure H where
  t : Tr B
  next : Nat
  deriving DecidableEq, Inhabited

structure F where
  n : Nat
  t : Tr V
  deriving DecidableEq, Inhabited

def undefV : V := .t []

/-! ### Values reckoned at once ('k': what is done with them) -/

def fN {β : Type} (n : Nat) (k : Nat → β) : β :=
  match n with
  | 0 => k 0
  | m + 1 => k (Nat.succ m)
theorem fN_eq {β : Type} (n : Nat) (k : Nat → β) : fN n k = k n := by cases n <;> rfl

def fI {β : Type} (z : Int) (k : Int → β) : β :=
  match z with
  | .ofNat n => fN n fun n => k (.ofNat n)
  | .negSucc n => fN n fun n => k (.negSucc n)
theorem fI_eq {β : Type} (n : Int) (k : Int → β) : fI n k = k n := by cases n <;> simp only [fI, fN_eq]

def fB {β : Type} (b : Bool) (k : Bool → β) : β :=
  match b with
  | true => k true
  | false => k false
theorem fB_eq {β : Type} (b : Bool) (k : Bool → β) : fB b k = k b := by cases b <;> rfl

def fL {α β : Type} : List α → (List α → β) → β
  | [], k => k []
  | x :: l, k => fL l fun l => k (x :: l)
theorem fL_eq {α β : Type} : ∀ (l : List α) (k : List α → β), fL l k = k l
  | [], k => rfl
  | x :: l, k => by simp only [fL, fL_eq l]

def fS {β : Type} (s : S) (k : S → β) : β :=
  match s with
  | .b x => fB x fun x => k (.b x)
  | .i q x => fI x fun x => k (.i q x)
  | .s l => fL l fun l => k (.s l)
  | .p n off => fN n fun n => fN off fun off => k (.p n off)
  | .np => k .np
  | .sl n off len c o => fN n fun n => fN off fun off => fN len fun len => fN c fun c => fB o fun o => k (.sl n off len c o)
  | .se n off d => fN n fun n => fN off fun off => fN d fun d => k (.se n off d)
  | .nsl => k .nsl
  | .m n => fN n fun n => k (.m n)
  | .nm => k .nm
  | .f g cs => fL cs fun cs => k (.f g cs)
  | .nf => k .nf
  | .fc t (.p n off) => fN n fun n => fN off fun off => k (.fc t (.p n off))
  | .fc t (.i q x) => fI x fun x => k (.fc t (.i q x))
  | .ni => k .ni
  | .any => k .any
theorem fS_eq {β : Type} (s : S) (k : S → β) : fS s k = k s := by
  cases s <;> simp only [fS, fN_eq, fI_eq, fB_eq, fL_eq]
  rename_i c
  cases c <;> simp only

def fSs {β : Type} : List S → (List S → β) → β
  | [], k => k []
  | x :: l, k => fS x fun x => fSs l fun l => k (x :: l)
theorem fSs_eq {β : Type} : ∀ (l : List S) (k : List S → β), fSs l k = k l
  | [], k => rfl
  | x :: l, k => by simp only [fSs, fS_eq, fSs_eq l]

def fW {β : Type} (x : W) (k : W → β) : β :=
  match x with
  | .s x => fS x fun x => k (.s x)
  | .a l => fSs l fun l => k (.a l)
theorem fW_eq {β : Type} (x : W) (k : W → β) : fW x k = k x := by cases x <;> simp only [fW, fS_eq, fSs_eq]

def fWs {β : Type} : List W → (List W → β) → β
  | [], k => k []
  | x :: l, k => fW x fun x => fWs l fun l => k (x :: l)
theorem fWs_eq {β : Type} : ∀ (l : List W) (k : List W → β), fWs l k = k l
  | [], k => rfl
  | x :: l, k => by simp only [fWs, fW_eq, fWs_eq l]

def fV {β : Type} (x : V) (k : V → β) : β :=
  match x with
  | .w x => fW x fun x => k (.w x)
  | .t l => fWs l fun l => k (.t l)
theorem fV_eq {β : Type} (x : V) (k : V → β) : fV x k = k x := by cases x <;> simp only [fV, fW_eq, fWs_eq]

def fT {α β : Type} (t : Tr α) (k : Tr α → β) : β :=
  match t with
  | .leaf a => k (.leaf a)
  | .node a l r => k (.node a l r)
theorem fT_eq {α β : Type} (t : Tr α) (k : Tr α → β) : fT t k = k t := by cases t <;> rfl

def fBk {β : Type} (b : B) (k : B → β) : β :=
  match b with
  | .none => k .none
  | .dead => k .dead
  | .row n t e z o => fN n fun n => fT t fun t => fB o fun o => k (.row n t e z o)
  | .map es c => fL es fun es => fN c fun c => k (.map es c)
theorem fBk_eq {β : Type} (b : B) (k : B → β) : fBk b k = k b := by cases b <;> simp only [fBk, fN_eq, fT_eq, fB_eq, fL_eq]

def half : IntKind → Nat
  | .i8 => 128 | .i16 => 32768 | .i32 => 2147483648 | .i64 => 9223372036854775808
  | .u8 => 256 | .u16 => 65536 | .u32 => 4294967296 | .u64 => 18446744073709551616

/-- A number that lies in its kind's range is itself. -/
def wrapF (k : IntKind) (z : Int) : Int :=
  match z with
  | .ofNat n => cond (Nat.blt n (half k)) (.ofNat n) (k.wrap (.ofNat n))
  | .negSucc n => k.wrap (.negSucc n)

theorem wrapF_eq (k : IntKind) (z : Int) : wrapF k z = k.wrap z := by
  cases z with
  | negSucc n => rfl
  | ofNat n =>
    simp only [wrapF]
    cases h : Nat.blt n (half k) with
    | false => rfl
    | true =>
      have hlt : n < half k := Nat.le_of_ble_eq_true h
      simp only [cond_true]
      symm
      show k.wrap (n : Int) = n
      cases k <;> simp only [half] at hlt <;> simp [IntKind.wrap, IntKind.bits, IntKind.signed] <;> omega

def iLt : Int → Int → Bool
  | .ofNat m, .ofNat n => Nat.blt m n
  | .ofNat _, .negSucc _ => false
  | .negSucc _, .ofNat _ => true
  | .negSucc m, .negSucc n => Nat.blt n m
theorem iLt_eq (m n : Int) : iLt m n = decide (m < n) := by
  have hb : ∀ a b, Nat.blt a b = decide (a < b) := fun a b => by
    by_cases h : a < b
    · simp [h, Nat.blt, Nat.ble_eq_true_of_le h]
    · have : ¬ Nat.blt a b = true := fun e => h (Nat.le_of_ble_eq_true e)
      simp [h, this]
  cases m <;> cases n <;> simp only [iLt, hb] <;> simp <;> omega
def iEq : Int → Int → Bool
  | .ofNat m, .ofNat n => Nat.beq m n
  | .negSucc m, .negSucc n => Nat.beq m n
  | _, _ => false
theorem iEq_eq (m n : Int) : iEq m n = (m == n) := by
  have hb : ∀ a b : Nat, Nat.beq a b = decide (a = b) := fun a b => by
    cases h : Nat.beq a b with
    | true => simp [Nat.eq_of_beq_eq_true h]
    | false => simp [Nat.ne_of_beq_eq_false h]
  rw [Bool.eq_iff_iff]
  cases m <;> cases n <;> simp [iEq, hb] <;> omega

def kIx : IntKind → Nat
  | .i8 => 0 | .i16 => 1 | .i32 => 2 | .i64 => 3 | .u8 => 4 | .u16 => 5 | .u32 => 6 | .u64 => 7
def kEq (a b : IntKind) : Bool := Nat.beq (kIx a) (kIx b)
theorem kEq_eq (a b : IntKind) : kEq a b = decide (a = b) := by cases a <;> cases b <;> rfl

/-! ### Values written out -/

def absS : Value → Option S
  | .bool b => some (.b b)
  | .int k n => some (.i k n)
  | .string s => some (.s s.data.toList)
  | .pointer none => some .np
  | .slice none 0 0 => some .nsl
  | .map none => some .nm
  | .nilFunc => some .nf
  | .nilIface => some .ni
  | _ => none

def absL : List Value → Option (List S)
  | [] => some []
  | v :: l => match absS v with
    | some x => match absL l with
      | some xs => some (x :: xs)
      | none => none
    | none => none

def absV : Value → Option V
  | .agg c => (absL c.toList).map fun l => .w (.a l)
  | v => (absS v).map fun x => .w (.s x)

/-! ### Memory -/

def H.get (h : H) (n : Nat) : B := h.t.get n
def H.put (h : H) (n : Nat) (b : B) : H :=
  match h with
  | ⟨t, m⟩ => fBk b fun b => Tr.setK 16 t n b fun t => ⟨t, m⟩
theorem H.put_eq (h : H) (n : Nat) (b : B) : h.put n b = { h with t := Tr.set 16 h.t n b } := by
  obtain ⟨t, m⟩ := h
  show (fBk b fun b => Tr.setK 16 t n b fun t => (⟨t, m⟩ : H)) = _
  rw [fBk_eq, Tr.setK_eq]

def top : Nat := 65000

def isNone : B → Bool
  | .none => true
  | _ => false

/-- A new block, at the next name. -/
def H.new (h : H) (b : B) : Option (Nat × H) :=
  match h with
  | ⟨t, m⟩ => cond (Nat.blt m top && isNone (t.get m)) (fBk b fun b => Tr.setK 16 t m b fun t => some (m, ⟨t, Nat.succ m⟩)) none

/-- Cells off, off + 1, .. (k of them). -/
def Tr.cells (t : Tr S) : (off k : Nat) → List S
  | _, 0 => []
  | off, k + 1 => t.get off :: Tr.cells t (off + 1) k

def Tr.write (t : Tr S) : (off : Nat) → List S → Tr S
  | _, [] => t
  | off, x :: l => fS x fun x => Tr.setK 16 t off x fun t => Tr.write t (Nat.succ off) l

/-- All of it is known. -/
def okS : S → Bool
  | .any => false
  | _ => true

def okL : List S → Bool
  | [] => true
  | x :: l => okS x && okL l

def W.cells : W → List S
  | .s x => [x]
  | .a l => l

def V.w? : V → Option W
  | .w x => some x
  | .t _ => none

/-! ### The program's types -/
section
variable (P : Program)

def isAggT (t : TypeId) : Option Bool :=
  match P.underlying t with
  | some (.struct _) => some true
  | some (.array _ _) => some true
  | some _ => some false
  | none => none

def sizeT (t : TypeId) : Option Nat := (P.info? t).map (·.size)

def zeroT (t : TypeId) : Option V := match P.info? t with
  | some i => match i.zero with
    | some z => absV z
    | none => none
  | none => none

def zeroC (t : TypeId) : Option (List S) := match zeroT P t with
  | some (.w x) => some x.cells
  | _ => none

def partT (t : TypeId) (cs : List S) (off : Nat) : Option V :=
  match isAggT P t with
  | some true => match sizeT P t with
    | some z => some (.w (.a ((cs.drop off).take z)))
    | none => none
  | some false => (cs[off]?).map fun x => .w (.s x)
  | none => none

/-! ### Operands -/

def F.ev (f : F) : Operand → Option V
  | .tmp t => some (f.t.get t)
  | .const v => absV v
  | .func g => some (.w (.s (.f g [])))
  | .global _ => none

def F.put (f : F) (dst : Option Tmp) (x : V) : Option F :=
  match dst with
  | none => some f
  | some d => match f with
    | ⟨n, t⟩ => cond (Nat.blt d n && Nat.blt n top) (fV x fun x => Tr.setK 16 t d x fun t => some ⟨n, t⟩) none

def F.evs (f : F) : List Operand → Option (List V)
  | [] => some []
  | x :: l => match f.ev x with
    | some v => match F.evs f l with
      | some vs => some (v :: vs)
      | none => none
    | none => none

def vInt : V → Option (IntKind × Int)
  | .w (.s (.i k n)) => some (k, n)
  | _ => none

/-- An int from 0 on, as a Nat. -/
def vNat : V → Option Nat
  | .w (.s (.i _ (.ofNat n))) => some n
  | _ => none

/-! ### Operations that look at no memory -/

/-- Are they alike? (No ints, no strings.) -/
def aSame (xT : TypeId) (x y : Operand) (u v : S) : Option Bool :=
  match P.underlying xT, u, v with
  | some .bool, .b a, .b b => some (a == b)
  | some (.pointer _), .np, .np => some true
  | some (.pointer _), .p _ _, .np => some false
  | some (.pointer _), .np, .p _ _ => some false
  | some (.interface _), .fc _ _, .ni => some false
  | some (.interface _), .ni, .fc _ _ => some false
  | some (.interface _), .ni, .ni => cond (Region.isConst x || Region.isConst y) (some true) none
  | some (.slice _), .nsl, .nsl => some true
  | some (.slice _), .sl .., .nsl => some false
  | some (.slice _), .nsl, .sl .. => some false
  | _, _, _ => none

def aIntOp (op : BinOp) (k : IntKind) (m n : Int) : Option S :=
  match op with
  | .add => some (.i k (wrapF k (m + n)))
  | .sub => some (.i k (wrapF k (m - n)))
  | .mul => some (.i k (wrapF k (m * n)))
  | .quo => cond (iEq n 0) none (some (.i k (wrapF k (m.tdiv n))))
  | .rem => cond (iEq n 0) none (some (.i k (m.tmod n)))
  | .and => some (.i k (k.wrap (BitVec.ofInt k.bits m &&& BitVec.ofInt k.bits n).toNat))
  | .or => some (.i k (k.wrap (BitVec.ofInt k.bits m ||| BitVec.ofInt k.bits n).toNat))
  | .xor => some (.i k (k.wrap (BitVec.ofInt k.bits m ^^^ BitVec.ofInt k.bits n).toNat))
  | .eql => some (.b (iEq m n))
  | .neq => some (.b (!(iEq m n)))
  | .lss => some (.b (iLt m n))
  | .leq => some (.b (!(iLt n m)))
  | .gtr => some (.b (iLt n m))
  | .geq => some (.b (!(iLt m n)))
  | _ => none

def aShift (op : BinOp) (k : IntKind) (m n : Int) : Option S :=
  cond (decide (n < 0)) none (match op with
  | .shl => some (.i k (k.wrap (m * 2 ^ min n.toNat k.bits)))
  | .shr => some (.i k (m.fdiv (2 ^ min n.toNat k.bits)))
  | _ => none)

def isShift : BinOp → Bool
  | .shl | .shr => true
  | _ => false

def aBin (op : BinOp) (xT : TypeId) (x y : Operand) (a b : V) : Option V :=
  match a, b with
  | .w (.s u), .w (.s v) =>
    match u, v with
    | .i k m, .i k' n => (cond (isShift op) (aShift op k m n) (cond (kEq k k') (aIntOp op k m n) none)).map fun s => .w (.s s)
    | .s l, .s r =>
      match op with
      | .eql => some (.w (.s (.b (l == r))))
      | .neq => some (.w (.s (.b (!(l == r)))))
      | _ => none
    | u, v => match op, aSame P xT x y u v with
      | .eql, some b => some (.w (.s (.b b)))
      | .neq, some b => some (.w (.s (.b (!b))))
      | _, _ => none
  | _, _ => none

def aUn (op : UnOp) (x : V) : Option V :=
  match op, x with
  | .not, .w (.s (.b b)) => some (.w (.s (.b (!b))))
  | .neg, .w (.s (.i k n)) => some (.w (.s (.i k (k.wrap (0 - n)))))
  | .xor, .w (.s (.i k n)) => some (.w (.s (.i k (k.wrap (BitVec.ofInt k.bits (if k.signed then -1 else k.max) ^^^ BitVec.ofInt k.bits n).toNat))))
  | _, _ => none

def aConv (src dst : TypeId) (x : V) : Option V :=
  match P.underlying src, P.underlying dst, x with
  | some _, some (.int k), .w (.s (.i _ n)) => some (.w (.s (.i k (wrapF k n))))
  | some _, some .string, .w (.s (.s l)) => some (.w (.s (.s l)))
  | _, _, _ => none

def aFieldAddr (s : TypeId) (x : V) (fi : Nat) : Option V :=
  match P.underlying s, x with
  | some (.struct fs), .w (.s (.p n off)) => match fs[fi]? with
    | some f => match sizeT P f.type with
      | some (_ + 1) => some (.w (.s (.p n (off + f.offset))))
      | _ => none
    | none => none
  | _, _ => none

def aField (xT : TypeId) (x : V) (fi : Nat) : Option V :=
  match P.underlying xT, x with
  | some (.struct fs), .w (.a cs) => match fs[fi]? with
    | some f => partT P f.type cs f.offset
    | none => none
  | _, _ => none

def aIndexAddr (t : TypeId) (x ix : V) : Option V :=
  match P.underlying t, x, vNat ix with
  | some (.array len elem), .w (.s (.p n off)), some i => match sizeT P elem with
    | some z => cond (Nat.blt i len) (some (.w (.s (.p n (off + i * z))))) none
    | none => none
  | some (.slice elem), .w (.s (.sl n off len _ _)), some i => match sizeT P elem with
    | some z => cond (Nat.blt i len) (some (.w (.s (.p n (off + i * z))))) none
    | none => none
  | _, _, _ => none

def aIndex (t : TypeId) (x ix : V) : Option V :=
  match P.underlying t, x, vNat ix with
  | some (.array len elem), .w (.a cs), some i => match sizeT P elem with
    | some z => cond (Nat.blt i len) (partT P elem cs (i * z)) none
    | none => none
  | some .string, .w (.s (.s l)), some i => (l[i]?).map fun b => .w (.s (.i .u8 b.toNat))
  | _, _, _ => none

/-- The bounds of a slice of something with 'len' elements and room for 'cap': low, high, max. -/
def aBounds (len cap : Nat) (lo hi mx : Option V) : Option (Nat × Nat × Nat) :=
  let m? := match mx with
    | none => some cap
    | some v => match vNat v with
      | some m => cond (Nat.ble m cap) (some m) none
      | none => none
  match m? with
  | none => none
  | some m =>
    let h? := match hi, mx with
      | none, none => some len
      | none, some _ => none
      | some v, _ => match vNat v with
        | some h => cond (Nat.ble h m) (some h) none
        | none => none
    match h? with
    | none => none
    | some h =>
      match lo with
      | none => some (0, h, m)
      | some v => match vNat v with
        | some l => cond (Nat.ble l h) (some (l, h, m)) none
        | none => none

/-- The room behind a slice's first element, where no third bound is told. -/
def roomOf (c m : Nat) (mx : Option V) : Nat :=
  match mx with
  | none => c
  | some _ => m

def aSlice (t : TypeId) (x : V) (lo hi mx : Option V) : Option V :=
  match P.underlying t, x with
  | some .string, .w (.s (.s s)) => match mx with
    | some _ => none
    | none => match aBounds s.length s.length lo hi none with
      | some (l, h, _) => some (.w (.s (.s ((s.drop l).take (h - l)))))
      | none => none
  | some (.slice elem), .w (.s .nsl) => match sizeT P elem, aBounds 0 0 lo hi mx with
      | some _, some (l, h, m) => cond (Nat.beq l 0 && Nat.beq h 0 && Nat.beq (roomOf 0 m mx) 0) (some (.w (.s .nsl))) none
      | _, _ => none
  | some (.slice elem), .w (.s (.sl n off len c o)) => match sizeT P elem, aBounds len c lo hi mx with
      | some z, some (l, h, m) => cond (Nat.ble l h && Nat.ble h (roomOf c m mx))
        (cond (o && mx.isNone)
          (cond (Nat.beq l c) (some (.w (.s (.se n off (l * z))))) (some (.w (.s (.sl n (off + l * z) (h - l) (c - l) true)))))
          (some (.w (.s (.sl n (cond (Nat.beq (roomOf c m mx) l) off (off + l * z)) (h - l) (roomOf c m mx - l) false))))) none
      | _, _ => none
  | some (.array n elem), .w (.s (.p b off)) => match sizeT P elem, aBounds n n lo hi mx with
      | some z, some (l, h, m) => some (.w (.s (.sl b (cond (Nat.beq (roomOf n m mx) l) off (off + l * z)) (h - l) (roomOf n m mx - l) false)))
      | _, _ => none
  | _, _ => none

def aExtract (x : V) (ix : Nat) : Option V :=
  match x with
  | .t l => (l[ix]?).map .w
  | _ => none

/-- Parts laid into cells. -/
def aFill (place : Nat → Option (Nat × Nat)) (cells : List S) : List (Nat × V) → Option (List S)
  | [] => some cells
  | (i, v) :: rest =>
    match place i, v with
    | some (off, z), .w x =>
      cond (Nat.beq x.cells.length z && Nat.ble (off + z) cells.length)
        (aFill place (cells.take off ++ (x.cells ++ cells.drop (off + z))) rest) none
    | _, _ => none

def F.evp (f : F) : List (Nat × Operand) → Option (List (Nat × V))
  | [] => some []
  | (i, x) :: l => match f.ev x with
    | some v => match F.evp f l with
      | some vs => some ((i, v) :: vs)
      | none => none
    | none => none

def placeOf (fs : Array Field) (i : Nat) : Option (Nat × Nat) :=
  match fs[i]? with
  | some f => (sizeT P f.type).map fun z => (f.offset, z)
  | none => none

/-- All fields' types have a size. -/
def sized (fs : Array Field) : Bool := fs.toList.all fun f => (sizeT P f.type).isSome

def aBuild (t : TypeId) (parts : List (Nat × V)) : Option V :=
  match P.underlying t, zeroC P t with
  | some (.struct fs), some z => cond (sized P fs) ((aFill (placeOf P fs) z parts).map fun l => .w (.a l)) none
  | some (.array _ elem), some z => match sizeT P elem with
    | some s => (aFill (fun i => some (i * s, s)) z parts).map fun l => .w (.a l)
    | none => none
  | _, _ => none

def asC : V → Option C
  | .w (.s (.p n off)) => some (.p n off)
  | .w (.s (.i k x)) => some (.i k x)
  | _ => none

def asCs : List V → Option (List C)
  | [] => some []
  | v :: l => match asC v with
    | some c => match asCs l with
      | some cs => some (c :: cs)
      | none => none
    | none => none

def aMakeInterface (t : TypeId) (x : V) : Option V :=
  match P.underlying t with
  | some (.interface _) => none
  | some _ => (asC x).map fun c => .w (.s (.fc t c))
  | none => none

def aNilCheck (x : V) : Option V :=
  match x with
  | .w (.s (.p n off)) => some (.w (.s (.p n off)))
  | .w (.s (.sl n off len c o)) => some (.w (.s (.sl n off len c o)))
  | _ => none

def aLen (t : TypeId) (x : V) : Option V :=
  match P.underlying t, x with
  | some .string, .w (.s (.s l)) => some (.w (.s (.i .i64 l.length)))
  | some (.array n _), _ => some (.w (.s (.i .i64 n)))
  | some (.slice _), .w (.s (.sl _ _ len _ _)) => some (.w (.s (.i .i64 len)))
  | some (.slice _), .w (.s (.se _ _ _)) => some (.w (.s (.i .i64 0)))
  | some (.slice _), .w (.s .nsl) => some (.w (.s (.i .i64 0)))
  | _, _ => none

def aCap (t : TypeId) (x : V) : Option V :=
  match P.underlying t, x with
  | some (.slice _), .w (.s (.sl _ _ _ c false)) => some (.w (.s (.i .i64 c)))
  | some (.slice _), .w (.s .nsl) => some (.w (.s (.i .i64 0)))
  | _, _ => none

def aMin2 : List V → Option V
  | [.w (.s (.i k m)), .w (.s (.i _ n))] => some (.w (.s (.i k (if n < m then n else m))))
  | _ => none
def aMax2 : List V → Option V
  | [.w (.s (.i k m)), .w (.s (.i _ n))] => some (.w (.s (.i k (if n > m then n else m))))
  | _ => none

/-- Operations that yield their value in every world. -/
def aPure (f : F) (o : Op) : Option V :=
  match o with
  | .move x | .assign x => f.ev x
  | .pick c a b => match f.ev c with
    | some (.w (.s (.b t))) => match f.ev a, f.ev b with
      | some va, some vb => some (cond t va vb)
      | _, _ => none
    | _ => none
  | .binOp op t x y _ => match f.ev x, f.ev y with
    | some a, some b => aBin P op t x y a b
    | _, _ => none
  | .unOp op _ x => match f.ev x with
    | some a => aUn op a
    | none => none
  | .convert s d x => match f.ev x with
    | some a => aConv P s d a
    | none => none
  | .fieldAddr s x fi => match f.ev x with
    | some a => aFieldAddr P s a fi
    | none => none
  | .field t x fi => match f.ev x with
    | some a => aField P t a fi
    | none => none
  | .indexAddr t x i => match f.ev x, f.ev i with
    | some a, some b => aIndexAddr P t a b
    | _, _ => none
  | .index t x i => match f.ev x, f.ev i with
    | some a, some b => aIndex P t a b
    | _, _ => none
  | .slice t x lo hi mx => match f.ev x with
    | some a =>
      match f.evs lo.toList, f.evs hi.toList, f.evs mx.toList with
      | some l, some h, some m => aSlice P t a l.head? h.head? m.head?
      | _, _, _ => none
    | none => none
  | .extract x i => match f.ev x with
    | some a => aExtract a i
    | none => none
  | .build t ps => match f.evp ps.toList with
    | some l => aBuild P t l
    | none => none
  | .makeInterface t x => match f.ev x with
    | some a => aMakeInterface P t a
    | none => none
  | .makeFunc (.func g) first captured => match first.toList, f.evs captured.toList with
    | [], some l => match asCs l with
      | some cs => some (.w (.s (.f g cs)))
      | none => none
    | _, _ => none
  | .nilCheck x => match f.ev x with
    | some a => aNilCheck a
    | none => none
  | .call { callee := .builtin b, args, argTypes } => match f.evs args.toList, argTypes.toList with
    | some l, t :: _ => match b, l with
      | .len, [x] => aLen P t x
      | .cap, [x] => aCap P t x
      | .min, l => aMin2 l
      | .max, l => aMax2 l
      | _, _ => none
    | _, _ => none
  | _ => none

/-! ### Operations upon memory -/

def aLoad (h : H) (t : TypeId) (x : V) : Option V :=
  match x with
  | .w (.s (.p n off)) => match h.get n with
    | .row k r _ _ _ => match isAggT P t, sizeT P t with
      | some true, some z => cond (Nat.ble (off + z) k && okL (r.cells off z)) (some (.w (.a (r.cells off z)))) none
      | some false, some _ => cond (Nat.blt off k && okS (r.get off)) (some (.w (.s (r.get off)))) none
      | _, _ => none
    | _ => none
  | _ => none

def aStore (h : H) (t : TypeId) (x v : V) : Option H :=
  match x, v with
  | .w (.s (.p n off)), .w u => match h.get n, sizeT P t with
    | .row k r e z o, some s => cond (Nat.beq u.cells.length s && Nat.ble (off + s) k)
        (some (h.put n (.row k (r.write off u.cells) e z o))) none
    | _, _ => none
  | _, _ => none

def aNew (h : H) (elem : TypeId) (cells : List S) : Option (V × H) :=
  match sizeT P elem with
  | some z => cond (Nat.blt cells.length top)
    (match h.new (.row cells.length (Tr.write (.leaf .ni) 0 cells) elem z false) with
      | some (n, h') => some (.w (.s (.p n 0)), h')
      | none => none) none
  | none => none

/-- c times a pattern. -/
def madeRow (zs : List S) (c : Nat) : Tr S :=
  match zs with
  | [x] => .leaf x
  | _ => Tr.write (.leaf .ni) 0 ((List.replicate c zs).flatten)

def aMakeSlice (h : H) (t : TypeId) (l c : V) : Option (V × H) :=
  match P.underlying t, vNat l, vNat c with
  | some (.slice elem), some l, some c =>
    match P.info? elem, zeroC P elem with
    | some i, some zs =>
      cond (Nat.ble l c && Nat.ble (i.bytes * c) 1000000000 && Nat.blt (c * i.size) top && Nat.beq zs.length i.size && Nat.blt c top)
        (match h.new (.row (c * i.size) (madeRow zs c) elem i.size false) with
          | some (n, h') => some (.w (.s (.sl n 0 l c false)), h')
          | none => none) none
    | _, _ => none
  | _, _, _ => none

def aBuildSlice (h : H) (t : TypeId) (len : Nat) (parts : List (Nat × V)) : Option (V × H) :=
  match P.underlying t with
  | some (.slice elem) => match sizeT P elem, zeroC P elem with
    | some z, some zs => cond (Nat.beq zs.length z && Nat.blt (len * z) top)
        (match aFill (fun i => some (i * z, z)) ((List.replicate len zs).flatten) parts with
          | some cells => match h.new (.row (len * z) (Tr.write (.leaf .ni) 0 cells) elem z false) with
            | some (n, h') => some (.w (.s (.sl n 0 len len false)), h')
            | none => none
          | none => none) none
    | _, _ => none
  | _ => none

/-- The first cells (n elements of z cells) of a slice or a string. -/
def aFirst (h : H) (z n : Nat) (x : V) : Option (List S) :=
  match x with
  | .w (.s .nsl) => some []
  | .w (.s (.sl b off _ _ _)) => match h.get b with
    | .row k r _ _ _ => cond (Nat.ble (off + n * z) k && okL (r.cells off (n * z))) (some (r.cells off (n * z))) none
    | _ => none
  | .w (.s (.s l)) => some ((l.take n).map fun b => .i .u8 b.toNat)
  | _ => none

def vLen : V → Option Nat
  | .w (.s .nsl) => some 0
  | .w (.s (.sl _ _ len _ _)) => some len
  | .w (.s (.s l)) => some l.length
  | _ => none

/-- Is append's second argument the length of a slice that is made on the spot? -/
def aZeros (xT : Option TypeId) : Option Bool :=
  match xT with
  | some t => match P.underlying t with
    | some (.int _) => some true
    | some (.slice _) => some false
    | some .string => some false
    | _ => none
  | none => none

/-- How many elements are appended, and their cells. -/
def aNews (h : H) (xT : Option TypeId) (z : Nat) (zs : List S) (x : V) : Option (Nat × List S) :=
  match aZeros P xT with
  | some true => (vNat x).map fun n => (n, (List.replicate n zs).flatten)
  | some false => match vLen x with
    | some n => (aFirst h z n x).map fun l => (n, l)
    | none => none
  | none => none

/-- n elements (cells 'new') laid behind a slice. -/
def aLay (h : H) (elem z bytes : Nat) (s : V) (n : Nat) (new : List S) : Option (V × H) :=
  match s with
  | .w (.s .nsl) =>
    cond (Nat.beq n 0) (some (.w (.s .nsl), h))
      (cond (Nat.blt (n * z) top && Nat.ble (n * (bytes + 1)) 1000000)
        (match h.new (.row (n * z) (Tr.write (.leaf .ni) 0 new) elem z true) with
          | some (b, h') => some (.w (.s (.sl b 0 n n true)), h')
          | none => none) none)
  | .w (.s (.sl b off len c o)) =>
    match h.get b with
    | .row k r e z' o' =>
      cond (Nat.beq z z' && Nat.blt (off + (len + n) * z) top && Nat.ble ((len + n) * (bytes + 1)) 1000000)
        (cond (Nat.ble (len + n) c)
          (cond (Nat.ble (off + (len + n) * z) k)
            (some (.w (.s (.sl b off (len + n) c o)), h.put b (.row k (r.write (off + len * z) new) e z' o'))) none)
          (cond (Nat.ble (off + len * z) k)
            (cond o
              (cond (Nat.beq off 0 && Nat.beq k (c * z) && Nat.beq e elem && o')
                (match (h.put b .dead).new (.row ((len + n) * z) (Tr.write r (len * z) new) elem z true) with
                  | some (b', h') => some (.w (.s (.sl b' 0 (len + n) (len + n) true)), h')
                  | none => none) none)
              (match h.new (.row ((len + n) * z) (Tr.write (.leaf .ni) 0 (r.cells off (len * z) ++ new)) elem z true) with
                | some (b', h') => some (.w (.s (.sl b' 0 (len + n) (len + n) true)), h')
                | none => none)) none)) none
    | _ => none
  | _ => none

/-- A slice that holds nothing and has no room. -/
def isVoid : V → Bool
  | .w (.s .nsl) => true
  | .w (.s (.sl _ _ 0 0 false)) => true
  | _ => false

/-- A slice that begins its row, laid behind nothing: the same cells once more. -/
def aClone (h : H) (elem z bytes : Nat) (s x : V) : Option (V × H) :=
  match x with
  | .w (.s (.sl b 0 n _ _)) => match h.get b with
    | .row k r _ _ _ => cond (isVoid s && !(Nat.beq n 0) && Nat.ble (n * z) k && Nat.ble (n * (bytes + 1)) 1000000)
      (match h.new (.row (n * z) r elem z true) with
        | some (b', h') => some (.w (.s (.sl b' 0 n n true)), h')
        | none => none) none
    | _ => none
  | _ => none

/-- append: (types, the slice, what is appended). -/
def aAppend (h : H) (sT : TypeId) (xT : Option TypeId) (s x : V) : Option (V × H) :=
  match P.underlying sT with
  | some (.slice elem) => match P.info? elem, zeroC P elem, aZeros P xT with
    | some i, some zs, some q => cond (Nat.beq zs.length i.size && !(Nat.beq i.size 0))
      (match cond q none (aClone h elem i.size i.bytes s x) with
        | some r => some r
        | none => match aNews P h xT i.size zs x with
          | some (n, new) => cond (Nat.beq new.length (n * i.size)) (aLay h elem i.size i.bytes s n new) none
          | none => none) none
    | _, _, _ => none
  | _ => none

def aCopy (h : H) (dT : TypeId) (d s : V) : Option (V × H) :=
  match P.underlying dT with
  | some (.slice elem) => match sizeT P elem, vLen d, vLen s with
    | some z, some dl, some sl =>
      let n := Nat.min sl dl
      match aFirst h z n s with
      | some cells =>
        cond (Nat.beq cells.length (n * z)) (match d with
        | .w (.s .nsl) => some (.w (.s (.i .i64 n)), h)
        | .w (.s (.sl b off _ _ _)) => match h.get b with
          | .row k r e z' o => cond (Nat.ble (off + n * z) k) (some (.w (.s (.i .i64 n)), h.put b (.row k (r.write off cells) e z' o))) none
          | _ => none
        | _ => none) none
      | none => none
    | _, _, _ => none
  | _ => none

def aClear (h : H) (t : TypeId) (d : V) : Option (V × H) :=
  match P.underlying t with
  | some (.slice elem) => match sizeT P elem, zeroC P elem with
    | some z, some zs => cond (Nat.beq zs.length z) (match d with
      | .w (.s .nsl) => some (.t [], h)
      | .w (.s (.sl b off len _ _)) => match h.get b with
        | .row k r e z' o => cond (Nat.ble (off + len * z) k) (some (.t [], h.put b (.row k (r.write off ((List.replicate len zs).flatten)) e z' o))) none
        | _ => none
      | _ => none) none
    | _, _ => none
  | _ => none

/-- Bytes to a string. -/
def aToBytes : List S → Option (List UInt8)
  | [] => some []
  | .i .u8 (.ofNat n) :: l => match aToBytes l with
    | some r => some (UInt8.ofNat n :: r)
    | none => none
  | _ => none

def aBytesString (h : H) (src dst : TypeId) (x : V) : Option V :=
  match P.underlying src, P.underlying dst with
  | some (.slice e), some .string => match P.underlying e with
    | some (.int .u8) => match x with
      | .w (.s .nsl) => some (.w (.s (.s [])))
      | .w (.s (.sl _ _ len _ _)) => match aFirst h 1 len x with
        | some l => match aToBytes l with
          | some bs => some (.w (.s (.s bs)))
          | none => none
        | none => none
      | _ => none
    | _ => none
  | _, _ => none

/-! ### Maps -/

/-- A computation that asks nothing but the program. -/
def pureRun {α : Type} : Sem α → Option α
  | .pure a => some a
  | .program k => pureRun (k P)
  | _ => none

def valS : S → Option Value
  | .b x => some (.bool x)
  | .i k x => some (.int k x)
  | .s l => some (.string ⟨l.toArray⟩)
  | _ => none

def valL : List S → Option (List Value)
  | [] => some []
  | x :: l => match valS x with
    | some v => match valL l with
      | some vs => some (v :: vs)
      | none => none
    | none => none

def valW : W → Option Value
  | .s x => valS x
  | .a l => (valL l).map fun vs => .agg vs.toArray

/-- Where a key stands: its number and value; 'none': it does not. -/
def aFind (kt : TypeId) (k : Value) : List (W × W × Nat) → Option (Option W)
  | [] => some none
  | (k', v, _) :: es => match valW k' with
    | some w => match pureRun P (Op.equal kt k w) with
      | some true => some (some v)
      | some false => aFind kt k es
      | none => none
    | none => none

def aLookup (h : H) (xT : TypeId) (m key : V) (ok : Bool) : Option V :=
  match P.underlying xT with
  | some (.map kt elem) =>
    let es? := match m with
      | .w (.s .nm) => some []
      | .w (.s (.m n)) => match h.get n with
        | .map es _ => some es
        | _ => none
      | _ => none
    match es?, key with
    | some es, .w kw => match valW kw with
      | some k => cond (P.underlying kt).isSome (match pureRun P (Instr.checkKey es.isEmpty 10000 kt k), aFind P kt k es with
        | some _, some (some v) => some (cond ok (.t [v, .s (.b true)]) (.w v))
        | some _, some none => match zeroT P elem with
          | some (.w z) => some (cond ok (.t [z, .s (.b false)]) (.w z))
          | _ => none
        | _, _ => none) none
      | none => none
    | _, _ => none
  | _ => none

/-- A new entry. -/
def aInsert (h : H) (mT : TypeId) (m key : V) (v : Option W) : Option (W × Nat × H) :=
  match P.underlying mT, m, key with
  | some (.map kt elem), .w (.s (.m n)), .w kw => match h.get n, valW kw with
    | .map es clock, some k =>
      let v? := match v with
        | some v => some v
        | none => match zeroT P elem with
          | some (.w z) => some z
          | _ => none
      cond (P.underlying kt).isSome (match v?, pureRun P (Instr.checkKey false 10000 kt k), aFind P kt k es with
      | some v, some _, some none => some (v, clock, h.put n (.map (es ++ [(kw, v, clock)]) (clock + 1)))
      | _, _, _ => none) none
    | _, _ => none
  | _, _, _ => none

/-- The entry with a stamp is set. -/
def aStamp (born : Nat) (v : W) : List (W × W × Nat) → Option (List (W × W × Nat))
  | [] => none
  | (k, u, b) :: es => cond (Nat.beq b born) (some ((k, v, b) :: es)) ((aStamp born v es).map fun l => (k, u, b) :: l)

def aEntryStore (h : H) (m stamp v : V) : Option H :=
  match m, vNat stamp, v with
  | .w (.s (.m n)), some born, .w u => match h.get n with
    | .map es clock => match aStamp born u es with
      | some es' => some (h.put n (.map es' clock))
      | none => none
    | _ => none
  | _, _, _ => none

/-- Operations upon memory, but for calls. -/
def aMem (f : F) (h : H) (o : Op) : Option (V × H) :=
  match o with
  | .load t x => match f.ev x with
    | some a => (aLoad P h t a).map fun v => (v, h)
    | none => none
  | .store t x v => match f.ev x, f.ev v with
    | some a, some b => (aStore P h t a b).map fun h' => (undefV, h')
    | _, _ => none
  | .alloc t => match zeroC P t with
    | some z => aNew P h t z
    | none => none
  | .box t x => match f.ev x with
    | some (.w u) => aNew P h t u.cells
    | _ => none
  | .makeSlice t l c => match f.ev l, f.ev c with
    | some a, some b => aMakeSlice P h t a b
    | _, _ => none
  | .buildSlice t len ps => match f.evp ps.toList with
    | some l => aBuildSlice P h t len l
    | none => none
  | .convert s d x => match f.ev x with
    | some a => (aBytesString P h s d a).map fun v => (v, h)
    | none => none
  | .makeMap _ none => match h.new (.map [] 0) with
    | some (n, h') => some (.w (.s (.m n)), h')
    | none => none
  | .lookup t x k ok => match f.ev x, f.ev k with
    | some a, some b => (aLookup P h t a b ok).map fun v => (v, h)
    | _, _ => none
  | .mapUpdate t m k v => match f.ev m, f.ev k, f.ev v with
    | some a, some b, some (.w c) => (aInsert P h t a b (some c)).map fun r => (undefV, r.2.2)
    | _, _, _ => none
  | .mapEntry t m k => match f.ev m, f.ev k with
    | some a, some b => (aInsert P h t a b none).map fun r => (.t [r.1, .s (.i .i64 r.2.1)], r.2.2)
    | _, _ => none
  | .entryStore _ m s v => match f.ev m, f.ev s, f.ev v with
    | some a, some b, some c => (aEntryStore h a b c).map fun h' => (undefV, h')
    | _, _, _ => none
  | .call { callee := .builtin b, args, argTypes } => match f.evs args.toList, argTypes.toList with
    | some l, t :: ts => match b, l with
      | .append, [s, x] => aAppend P h t ts.head? s x
      | .copy, [d, s] => aCopy P h t d s
      | .clear, [d] => aClear P h t d
      | _, _ => none
    | _, _ => none
  | _ => none

/-! ### Calls -/

def cV : C → V
  | .p n off => .w (.s (.p n off))
  | .i k x => .w (.s (.i k x))

/-- The function that is called, and its arguments. -/
def aTarget (f : F) (c : Call) : Option (FuncId × List V) :=
  match c.callee, f.evs c.args.toList with
  | .value g, some l => match f.ev g with
    | some (.w (.s (.f g cs))) => some (g, l ++ cs.map cV)
    | _ => none
  | .invoke r name, some l => match f.ev r with
    | some (.w (.s (.fc t (.p n off)))) => match P.info? t, P.underlying t with
      | some i, some (.pointer _) => match i.methods.find? (·.name == name) with
        | some m => match m.path.toList, m.func with
          | [], some (g, true) => some (g, .w (.s (.p n off)) :: l)
          | _, _ => none
        | none => none
      | _, _ => none
    | _ => none
  | _, _ => none

inductive E where
  | normal
  | ret
  | exit (id : Nat)
  deriving DecidableEq, Inhabited

structure Res where
  e : E
  f : F
  h : H
  v : V
  deriving Inhabited

inductive Task where
  | code (c : Code)
  | loop (c : Code)
  | call (g : FuncId) (args : List V)

def vIs (want : Bool) : V → Bool
  | .w (.s (.b x)) => x == want
  | _ => false

/-- Is this operation wanted? -/
def aWanted (f : F) (ops : Array Oper) (o : Oper) : Bool :=
  match o.guard with
  | none => true
  | some (j, want) => match (ops[j]?).bind (·.dst) with
    | none => false
    | some d => cond (Nat.blt d f.n) (vIs want (f.t.get d)) false

/-- One operation, whatever it is. -/
def aOper (ih : Task → F → H → Option Res) (f : F) (h : H) (o : Op) : Option (V × H) :=
  match aPure P f o with
  | some v => some (v, h)
  | none => match aMem P f h o with
    | some r => some r
    | none => match o with
      | .call c => match aTarget P f c with
        | some (g, args) => (ih (.call g args) f h).map fun r => (r.v, r.h)
        | none => none
      | _ => none

def aOps (ih : Task → F → H → Option Res) (ops : Array Oper) : List Oper → F → H → Option (F × H)
  | [], f, h => some (f, h)
  | o :: rest, f, h =>
    cond (aWanted f ops o)
      (match aOper P ih f h o.op with
        | some (v, h') => match f.put o.dst v with
          | some f' => aOps ih ops rest f' h'
          | none => none
        | none => none)
      (match f.put o.dst undefV with
        | some f' => aOps ih ops rest f' h
        | none => none)

def aResult (f : F) (h : H) : ResultVar → Option V
  | .tmp t => some (f.t.get t)
  | .cell a t => aLoad P h t (f.t.get a)

def aResults (f : F) (h : H) : List ResultVar → Option (List W)
  | [] => some []
  | r :: l => match aResult P f h r with
    | some (.w x) => match aResults f h l with
      | some xs => some (x :: xs)
      | none => none
    | _ => none

def aOut (f : F) (h : H) (rs : List ResultVar) : Option V :=
  match aResults P f h rs with
  | some [x] => some (.w x)
  | some l => some (.t l)
  | none => none

def Tr.ofArgs : (i : Nat) → List V → Tr V → Tr V
  | _, [], t => t
  | i, x :: l, t => fV x fun x => Tr.setK 16 t i x fun t => Tr.ofArgs (Nat.succ i) l t

end
end Ai
end Go.Proofs.YtjmhkcfdmcjilaaGreat
namespace Go.Proofs.YtjmhkcfdmcjilaaGreat
namespace Ai
section
variable (P : Program)

inductive Step where
  | q (i : Nat)
  | one (i : Nat)
  | two (i j : Nat)
  deriving Inhabited

/-- Kinds of operations that may be taken ahead of others. -/
def quietKind : Op → Bool
  | .move _ | .assign _ | .pick .. | .binOp .. | .unOp .. | .convert .. | .fieldAddr .. | .field .. | .indexAddr .. | .index .. | .slice .. | .extract ..
  | .build .. | .makeInterface .. | .makeFunc .. | .nilCheck _ | .load .. => true
  | .call { callee := .builtin b, .. } => match b with
    | .len | .cap | .min | .max => true
    | _ => false
  | _ => false

def isMake : Oper → Bool
  | { op := .makeSlice .., guard := none, .. } => true
  | _ => false

def aPlan (ops : Array Oper) : Nat → Array Bool → Option (List Step)
  | 0, listed => match Region.ready .any ops listed with
    | [] => some []
    | _ => none
  | n + 1, listed =>
    match Region.ready .any ops listed with
    | [] => some []
    | r => match r.find? (fun i => match ops[i]? with
        | some o => quietKind o.op && Region.free .any ops listed i
        | none => false) with
      | some i => (aPlan ops n (listed.setIfInBounds i true)).map (.q i :: ·)
      | none => match r with
        | [i] => (aPlan ops n (listed.setIfInBounds i true)).map (.one i :: ·)
        | [i, j] => match ops[i]?, ops[j]?, n with
          | some oi, some oj, m + 1 => cond (isMake oi && isMake oj && (Region.ready .any ops (listed.setIfInBounds i true) == [j]) && (Region.ready .any ops (listed.setIfInBounds j true) == [i]))
            ((aPlan ops m ((listed.setIfInBounds i true).setIfInBounds j true)).map (.two i j :: ·)) none
          | _, _, _ => none
        | _ => none

/-- What was loaded ahead of others, and from where; 'ds': the operation, and those that have come up and wait for it. -/
structure Seen where
  i : Nat
  t : TypeId
  a : V
  v : V
  ds : List Nat

def stillSeen (h : H) : List Seen → Bool
  | [] => true
  | s :: l => (match aLoad P h s.t s.a with
    | some v => decide (v = s.v)
    | none => false) && stillSeen h l

def waits (o : Oper) (ds : List Nat) : Bool := ds.any fun m => o.after.any fun e => Region.binds .any e && e.on == m

/-- What is still to be seen, once operation 'k' has come up. -/
def unwaited (k : Nat) (o : Oper) (ls : List Seen) : List Seen :=
  cond (quietKind o.op) (ls.map fun s => cond (waits o s.ds) { s with ds := k :: s.ds } s) (ls.filter fun s => !waits o s.ds)

def aQuiet (f : F) (h : H) (i : Nat) (o : Op) : Option (V × List Seen) :=
  match aPure P f o with
  | some v => some (v, [])
  | none => match o with
    | .load t x => match f.ev x with
      | some a => (aLoad P h t a).map fun v => (v, [⟨i, t, a, v, [i]⟩])
      | none => none
    | _ => none

def aMake (f : F) (h : H) (o : Oper) : Option (F × H) :=
  match aMem P f h o.op with
  | some (v, h') => (f.put o.dst v).map fun f' => (f', h')
  | none => none

def aDrawn (ih : Task → F → H → Option Res) (ops : Array Oper) : List Step → F → H → List Seen → Option (F × H)
  | [], f, h, _ => some (f, h)
  | .q i :: rest, f, h, ls => match ops[i]? with
    | none => none
    | some o => cond (aWanted f ops o)
      (match aQuiet P f h i o.op with
        | some (v, l) => match f.put o.dst v with
          | some f' => aDrawn ih ops rest f' h (l ++ unwaited i o ls)
          | none => none
        | none => none)
      (match f.put o.dst undefV with
        | some f' => aDrawn ih ops rest f' h (unwaited i o ls)
        | none => none)
  | .one i :: rest, f, h, ls => match ops[i]? with
    | none => none
    | some o => cond (aWanted f ops o)
      (match aOper P ih f h o.op with
        | some (v, h') => cond (stillSeen P h' (unwaited i o ls)) (match f.put o.dst v with
          | some f' => aDrawn ih ops rest f' h' (unwaited i o ls)
          | none => none) none
        | none => none)
      (match f.put o.dst undefV with
        | some f' => aDrawn ih ops rest f' h (unwaited i o ls)
        | none => none)
  | .two i j :: rest, f, h, ls => match ops[i]?, ops[j]? with
    | some oi, some oj =>
      match aMake P f h oi with
      | some (f1, h1) => match aMake P f1 h1 oj with
        | some (f2, h2) => match aMake P f { h with next := h.next + 1 } oj with
          | some (f3, h3) => match aMake P f3 { h3 with next := h.next } oi with
            | some (f4, h4) => cond (decide (f4 = f2 ∧ h4.t = h2.t) && stillSeen P h1 ls && stillSeen P h2 ls && stillSeen P h3 ls) (aDrawn ih ops rest f2 h2 ls) none
            | none => none
          | none => none
        | none => none
      | none => none
    | _, _ => none

/-- What stands in for some functions (proved apart). -/
abbrev Nat' := FuncId → List V → H → Option (Option (V × H))

/-- internal/bytealg.Count. -/
def aCount (l : List V) (h : H) : Option (V × H) :=
  match l with
  | [b, .w (.s (.i .u8 (.ofNat c)))] => match b with
    | .w (.s (.sl _ _ len _ _)) => match aFirst h 1 len b with
      | some l => match aToBytes l with
        | some bs => some (.w (.s (.i .i64 (bs.foldl (fun n x => if x == c.toUInt8 then n + 1 else n) (0 : Nat)))), h)
        | none => none
      | none => none
    | _ => none
  | _ => none

/-- internal/bytealg.MakeNoZero. -/
def aMakeNoZero (elem : TypeId) (l : List V) (h : H) : Option (V × H) :=
  match l with
  | [.w (.s (.i .i64 (.ofNat n)))] => cond (Nat.blt n top) (match h.new (.row n (.leaf .any) elem 1 true) with
    | some (b, h') => some (.w (.s (.sl b 0 n n true)), h')
    | none => none) none
  | _ => none

/-- nand.fill, of a whole row. -/
def aFillAll (l : List V) (h : H) : Option (V × H) :=
  match l with
  | [.w (.s (.sl b off len _ _)), .w (.s (.i .u8 x))] => match h.get b with
    | .row k _ e z o => cond (Nat.beq off 0 && Nat.beq len k) (some (.t [], h.put b (.row k (.leaf (.i .u8 x)) e z o))) none
    | _ => none
  | _ => none

def crcBit (c : Nat) : Nat := cond (Nat.beq (Nat.land c 1) 1) (Nat.xor (Nat.shiftRight c 1) 3988292384) (Nat.shiftRight c 1)
def crcByte (c : Nat) (x : UInt8) : Nat := crcBit (crcBit (crcBit (crcBit (crcBit (crcBit (crcBit (crcBit (Nat.xor c x.toNat))))))))
def crcOf : Nat → List UInt8 → Nat
  | c, [] => c
  | c, x :: l => crcOf (crcByte c x) l

/-- All of them bytes. -/
def smallL : List S → Bool
  | [] => true
  | .i .u8 (.ofNat n) :: l => Nat.blt n 256 && smallL l
  | _ => false

/-- crc.More. -/
def aCrc (l : List V) (h : H) : Option (V × H) :=
  match l with
  | [.w (.s (.i .u32 (.ofNat s))), .w (.s (.sl b off len c o))] => match aFirst h 1 len (.w (.s (.sl b off len c o))) with
    | some l => match aToBytes l with
      | some bs => cond (Nat.blt s 4294967296 && Nat.blt len top && smallL l) (some (.w (.s (.i .u32 (Nat.xor (crcOf (Nat.xor s 4294967295) bs) 4294967295))), h)) none
      | none => none
    | none => none
  | _ => none

def step (nat : Nat') (ih : Task → F → H → Option Res) : Task → F → H → Option Res
  | .call g args, f, h => match nat g args h with
    | some (some (v, h')) => some ⟨.normal, f, h', v⟩
    | some none => none
    | none => match P.funcs[g]? with
      | some fn => match fn.body with
        | some c => cond (Nat.blt (args.length + fn.ntmps) top && Nat.ble args.length fn.ntmps)
          (match ih (.code c) ⟨fn.ntmps, Tr.ofArgs 0 args (.leaf undefV)⟩ h with
            | some ⟨.exit _, _, _, _⟩ => none
            | some ⟨_, f', h', _⟩ => (aOut P f' h' fn.results.toList).map fun v => ⟨.normal, f, h', v⟩
            | none => none) none
        | none => none
      | none => none
  | .loop c, f, h => match ih (.code c) f h with
    | some ⟨.normal, f', h', _⟩ => ih (.loop c) f' h'
    | r => r
  | .code c, f, h => match c with
    | .skip => some ⟨.normal, f, h, undefV⟩
    | .ret => some ⟨.ret, f, h, undefV⟩
    | .exit id => some ⟨.exit id, f, h, undefV⟩
    | .seq a b => match ih (.code a) f h with
      | some ⟨.normal, f', h', _⟩ => ih (.code b) f' h'
      | r => r
    | .cond x a b => match f.ev x with
      | some (.w (.s (.b t))) => ih (.code (cond t a b)) f h
      | _ => none
    | .block id a => match ih (.code a) f h with
      | some ⟨.exit id', f', h', v⟩ => cond (Nat.beq id' id) (some ⟨.normal, f', h', v⟩) (some ⟨.exit id', f', h', v⟩)
      | r => r
    | .loop a => ih (.loop a) f h
    | .region _ ops false => (aOps P ih ops ops.toList f h).map fun r => ⟨.normal, r.1, r.2, undefV⟩
    | .region _ ops true => match aPlan ops ops.size (Array.replicate ops.size false) with
      | some steps => cond (Region.noSelect ops) ((aDrawn P ih ops steps f h []).map fun r => ⟨.normal, r.1, r.2, undefV⟩) none
      | none => none
    | _ => none

def run (nat : Nat') (n : Nat) : Task → F → H → Option Res :=
  Nat.rec (fun _ _ _ => none) (fun _ ih => step P nat ih) n

def natT : Nat' := fun g l h => match g with
  | 124 => some (aCount l h)
  | 117 => some (aMakeNoZero 5 l h)
  | 102 => some (aFillAll l h)
  | 92 => some (aCrc l h)
  | _ => none

def isTrue' : Option Res → Bool
  | some ⟨_, _, _, .w (.s (.b true))⟩ => true
  | _ => false

def isSome' : Option Res → Bool
  | some _ => true
  | _ => false

end
end Ai
end Go.Proofs.YtjmhkcfdmcjilaaGreat
