/- The abstract machine: what an operation comes to, reckoned. Conditions: none. -/
import Derived.Test.YtpefomdegbmecaaDoorZ1
import Derived.Laws.AppendOwn
import Derived.Laws.StructEq
import Derived.WalkSpells
import Derived.Laws.Tables
set_option linter.unusedSectionVars false
namespace Go.Proofs.YtpefomdegbmecaaDoor.Am
set_option linter.unusedVariables false
set_option linter.unusedSimpArgs false
open Go Go.RowKit

/-! ### Cells of a list of segments -/
def Seg.width : Seg → Nat
  | .num _ => 4
  | .arr _ l => l.length
  | .ap _ F n => (F n).length
  | .vs l => l.length
  | _ => 1
def widths : List Seg → Nat
  | [] => 0
  | x :: l => x.width + widths l
def cut : List Seg → Nat → Option (List Seg × List Seg)
  | [], 0 => some ([], [])
  | [], _ + 1 => none
  | x :: l, 0 => some ([], x :: l)
  | x :: l, n + 1 =>
    match Nat.ble x.width (n + 1) with
    | true => match cut l (n + 1 - x.width) with
      | some (a, b) => some (x :: a, b)
      | none => none
    | false => match x with
      | .num m => some ([.arr .u64 ((words m).take (n + 1))], .arr .u64 ((words m).drop (n + 1)) :: l)
      | .arr k zs => some ([.arr k (zs.take (n + 1))], .arr k (zs.drop (n + 1)) :: l)
      | .ap k F m => some ([.arr k ((F m).take (n + 1))], .arr k ((F m).drop (n + 1)) :: l)
      | _ => none
def getSegs (l : List Seg) (off n : Nat) : Option (List Seg) :=
  match cut l off with
  | some (_, r) => match cut r n with
    | some (m, _) => some m
    | none => none
  | none => none
def cellOf (off : Nat) : Seg → Seg
  | .num m => .v (.int .u64 ((words m).getD off 0))
  | .arr k zs => .v (.int k (zs.getD off 0))
  | .ap k F n => .v (.int k ((F n).getD off 0))
  | .vs l => .v (l.getD off undef)
  | x => x
def cell : List Seg → Nat → Option Seg
  | [], _ => none
  | x :: l, off => match Nat.ble x.width off with
    | true => cell l (off - x.width)
    | false => some (cellOf off x)
def ik : IntKind → Nat
  | .i8 => 0 | .i16 => 1 | .i32 => 2 | .i64 => 3 | .u8 => 4 | .u16 => 5 | .u32 => 6 | .u64 => 7
def putOf (off : Nat) (y : Seg) : Seg → Option (List Seg)
  | .num m => match y with
    | .v (.int k z) => match Nat.beq (ik k) 7 with
      | true => some [.arr .u64 ((words m).set off z)]
      | false => none
    | _ => none
  | .arr j zs => match y with
    | .v (.int k z) => match Nat.beq (ik k) (ik j) with
      | true => some [.arr j (zs.set off z)]
      | false => none
    | _ => none
  | .ap j F n => match y with
    | .v (.int k z) => match Nat.beq (ik k) (ik j) with
      | true => some [.arr j ((F n).set off z)]
      | false => none
    | _ => none
  | .vs _ => none
  | _ => some [y]
def putCell (y : Seg) : List Seg → Nat → Option (List Seg)
  | [], _ => none
  | x :: l, off => match Nat.ble x.width off with
    | true => match putCell y l (off - x.width) with
      | some r => some (x :: r)
      | none => none
    | false => match putOf off y x with
      | some r => some (r ++ l)
      | none => none
def putSegs (l : List Seg) (off : Nat) (news : List Seg) : Option (List Seg) :=
  match cut l off with
  | some (a, r) => match cut r (widths news) with
    | some (_, c) => some (a ++ news ++ c)
    | none => none
  | none => none
def join : List Seg → List Seg → List Seg
  | [], [.v (.int k z)] => [.arr k [z]]
  | [.arr j l], [.v (.int k z)] => match Nat.beq (ik k) (ik j) with
    | true => [.arr j (l ++ [z])]
    | false => [.arr j l, .v (.int k z)]
  | [.arr j l], [.arr k m] => match Nat.beq (ik k) (ik j) with
    | true => [.arr j (l ++ m)]
    | false => [.arr j l, .arr k m]
  | a, b => a ++ b
def mkAgg : List Seg → AV
  | [.num n] => .one (.num n)
  | [.arr k l] => .one (.arr k l)
  | [.ap k F n] => .one (.ap k F n)
  | l => .agg l

def intsOf (k : IntKind) : List Seg → Option (List Int)
  | [] => some []
  | .v (.int j z) :: l => match Nat.beq (ik j) (ik k), intsOf k l with
    | true, some r => some (z :: r)
    | _, _ => none
  | .arr j zs :: l => match Nat.beq (ik j) (ik k), intsOf k l with
    | true, some r => some (zs ++ r)
    | _, _ => none
  | .ap j F n :: l => match Nat.beq (ik j) (ik k), intsOf k l with
    | true, some r => some (F n ++ r)
    | _, _ => none
  | _ => none
def b64 (n : Nat) : Bool := Nat.blt n 18446744073709551616
/-- Four words that are known are a number. -/
def normNum (l : List Seg) : AV := match intsOf .u64 l with
  | some [x, y, z, u] => match x, y, z, u with
    | .ofNat a, .ofNat b, .ofNat c, .ofNat d => match b64 a && b64 b && b64 c && b64 d with
      | true => .one (.num (a + 18446744073709551616 * b + 340282366920938463463374607431768211456 * c + 6277101735386680763835789423207666416102355444464034512896 * d))
      | false => mkAgg l
    | _, _, _, _ => mkAgg l
  | _ => mkAgg l

/-! ### Types -/
inductive U where
  | int (k : IntKind) | bool | str | arr (n : Nat) (e : TypeId) | st (fs : List (Nat × TypeId)) | sl (e : TypeId) | ptr (e : TypeId) | mp (k e : TypeId) | oth
structure Ty where
  size : Nat
  bytes : Nat
  zero : AV
  u : U
  eqk : Option IntKind := none
  eqs : Bool := false
def U.agg : U → Bool
  | .arr _ _ => true
  | .st _ => true
  | _ => false
def look {α : Type} : List (Nat × α) → Nat → Option α
  | [], _ => none
  | (k, x) :: l, n => match Nat.beq k n with
    | true => some x
    | false => look l n

/-- What is leaned on. -/
inductive Asm where
  | tt
  | and (a b : Asm)
  | say (p : Prop)
  | row (a : Option Addr) (len cap : Nat) (k : IntKind) (zs : List Int)
/-- A row of integers that lies in one of the blocks whose contents are known. -/
def TabRow (tab : List (Nat × List Value)) (a : Option Addr) (len cap : Nat) (k : IntKind) (zs : List Int) : Prop :=
  zs.length = len ∧ len ≤ cap ∧ (zs = [] ∨ ∃ y, a = some y) ∧ ∀ y, a = some y → ∃ x, x ∈ tab ∧ x.1 = y.block ∧ ∀ (j : Nat) (u : Value), (zs.map (Value.int k))[j]? = some u → (y.add j).spot = none ∧ x.2[(y.add j).off]? = some u
def Asm.holds [GT] : Asm → Prop
  | .tt => True
  | .and a b => a.holds ∧ b.holds
  | .say p => p
  | .row a len cap k zs => TabRow GT.tab a len cap k zs
def Asm.list [GT] : Asm → List Prop → List Prop
  | .tt, l => l
  | .and a b, l => a.list (b.list l)
  | .say p, l => p :: l
  | .row a len cap k zs, l => TabRow GT.tab a len cap k zs :: l
def AllP : List Prop → Prop
  | [] => True
  | p :: l => p ∧ AllP l
theorem Asm.of_list [GT] : ∀ (a : Asm) (l : List Prop), AllP (a.list l) → a.holds ∧ AllP l
  | .tt, _, h => ⟨trivial, h⟩
  | .and a b, l, h => ⟨⟨(a.of_list _ h).1, (b.of_list l (a.of_list _ h).2).1⟩, (b.of_list l (a.of_list _ h).2).2⟩
  | .say _, _, h => h
  | .row _ _ _ _ _, _, h => h

/-- What an operation comes to: its value, new blocks, blocks that change or go, and what it leans on. -/
structure Res where
  val : SV
  new : List Blk := []
  upd : List (Nat × Option Blk) := []
  asm : Asm := .tt
structure Hint where
  sym : Bool := false
  is : Option SV := none
  c : Option (List Seg) := none
abbrev Ent := List SV → (Nat → Option Blk) → Nat → Option Res

def ofV (v : Value) : SV := .av (.one (.v v))
def ret (s : Option SV) : Option Res := match s with
  | some s => some { val := s }
  | none => none

/-- Where part i of a type lies, and how many cells it has. -/
def place (T : List (Nat × Ty)) (u : U) (i : Nat) : Option (Nat × Nat) :=
  match u with
  | .arr _ e => match look T e with
    | some ty => some (i * ty.size, ty.size)
    | none => none
  | .st fs => match fs[i]? with
    | some (off, t) => match look T t with
      | some ty => some (off, ty.size)
      | none => none
    | none => none
  | _ => none
def fillIn (pl : Nat → Option (Nat × Nat)) (ev : Operand → Option SV) : List Seg → List (Nat × Operand) → Option (List Seg)
  | c, [] => some c
  | c, (i, x) :: l => match pl i, ev x with
    | some (off, n), some (.av a) => match Nat.beq (widths a.segs) n && segsOk a.segs with
      | true => match putSegs c off a.segs with
        | some c' => fillIn pl ev c' l
        | none => none
      | false => none
    | _, _ => none
def times (n : Nat) (l : List Seg) : List Seg := match n with
  | 0 => []
  | n + 1 => l ++ times n l

def aggB : AV → Bool
  | .agg _ => true
  | .one (.num _) => true
  | .one (.arr _ _) => true
  | .one (.ap _ _ _) => true
  | _ => false
/-- What is read at a place. -/
def readAt (ty : Ty) (sym : Bool) (c : List Seg) (off : Nat) : Option (SV × Asm) :=
  match ty.u.agg with
  | true => match getSegs c off ty.size, Nat.ble 1 ty.size with
    | some l, true => some (.av (mkAgg l), .tt)
    | _, _ => none
  | false => match sym with
    | true => match c with
      | [.arr k zs] => some (ofV (.int k (zs.getD off 0)), .say (off < zs.length))
      | [.ap k F n] => some (ofV (.int k ((F n).getD off 0)), .say (off < (F n).length))
      | [.num m] => some (ofV (.int .u64 (word m off)), .say (off < 4))
      | _ => none
    | false => match cell c off with
      | some x => some (.av (.one x), .tt)
      | none => none
def storeAt (ty : Ty) (sym : Bool) (c : List Seg) (off : Nat) (a : AV) : Option (List Seg × Asm) :=
  match Nat.beq (widths a.segs) ty.size && segsOk a.segs with
  | false => none
  | true => match sym with
    | true => match c, a with
      | [.arr j zs], .one (.v (.int k z)) => match Nat.beq (ik k) (ik j) with
        | true => some ([.arr j (zs.set off z)], .say (off < zs.length))
        | false => none
      | _, _ => none
    | false => match a with
      | .one (.v x) => match putCell (.v x) c off with
        | some c' => some (c', .tt)
        | none => none
      | a => match putSegs c off a.segs with
        | some c' => some (c', .tt)
        | none => none

/-- A number from 0 to hi: as it is reckoned, or told. -/
def natOf (sym : Bool) (hi : Nat) : SV → Option (Nat × Asm)
  | .av (.one (.v (.int _ z))) => match sym with
    | true => some (z.toNat, .say (0 ≤ z ∧ z.toNat ≤ hi))
    | false => match z with
      | .ofNat n => match Nat.ble n hi with
        | true => some (n, .tt)
        | false => none
      | _ => none
  | _ => none
def within (sym : Bool) (a b : Nat) : Option Asm := match sym with
  | true => some (.say (a ≤ b))
  | false => match Nat.ble a b with
    | true => some .tt
    | false => none

/-! bits, as the program reckons them -/
def iand (k : IntKind) (a b : Int) : Int := k.wrap (BitVec.ofInt k.bits a &&& BitVec.ofInt k.bits b).toNat
def ior (k : IntKind) (a b : Int) : Int := k.wrap (BitVec.ofInt k.bits a ||| BitVec.ofInt k.bits b).toNat
def ixor (k : IntKind) (a b : Int) : Int := k.wrap (BitVec.ofInt k.bits a ^^^ BitVec.ofInt k.bits b).toNat
def iandn (k : IntKind) (a b : Int) : Int := k.wrap (BitVec.ofInt k.bits a &&& ~~~ BitVec.ofInt k.bits b).toNat
def ishl (k : IntKind) (a : Int) (n : Nat) : Int := k.wrap (a * 2 ^ min n k.bits)
def ishr (k : IntKind) (a : Int) (n : Nat) : Int := a.fdiv (2 ^ min n k.bits)
def binVal (sym : Bool) (op : BinOp) (x y : Value) : Option (Value × Asm) :=
  match x with
  | .int k a => match y with
    | .int j b => match op with
      | .shl => match sym with
        | true => some (.int k (ishl k a b.toNat), .say (0 ≤ b))
        | false => match b with
          | .ofNat n => some (.int k (ishl k a n), .tt)
          | _ => none
      | .shr => match sym with
        | true => some (.int k (ishr k a b.toNat), .say (0 ≤ b))
        | false => match b with
          | .ofNat n => some (.int k (ishr k a n), .tt)
          | _ => none
      | _ => match Nat.beq (ik k) (ik j) with
        | false => none
        | true => match op with
          | .add => some (.int k (k.wrap (a + b)), .tt)
          | .sub => some (.int k (k.wrap (a - b)), .tt)
          | .mul => some (.int k (k.wrap (a * b)), .tt)
          | .quo => match sym with
            | true => some (.int k (k.wrap (a.tdiv b)), .say (b ≠ 0))
            | false => match b with
              | .ofNat (n + 1) => some (.int k (k.wrap (a.tdiv (.ofNat (n + 1)))), .tt)
              | _ => none
          | .rem => match sym with
            | true => some (.int k (a.tmod b), .say (b ≠ 0))
            | false => match b with
              | .ofNat (n + 1) => some (.int k (a.tmod (.ofNat (n + 1))), .tt)
              | _ => none
          | .and => some (.int k (iand k a b), .tt)
          | .or => some (.int k (ior k a b), .tt)
          | .xor => some (.int k (ixor k a b), .tt)
          | .andNot => some (.int k (iandn k a b), .tt)
          | .eql => some (.bool (a == b), .tt)
          | .neq => some (.bool (a != b), .tt)
          | .lss => some (.bool (decide (a < b)), .tt)
          | .leq => some (.bool (decide (a ≤ b)), .tt)
          | .gtr => some (.bool (decide (a > b)), .tt)
          | .geq => some (.bool (decide (a ≥ b)), .tt)
          | _ => none
    | _ => none
  | .string a => match y with
    | .string b => match op with
      | .eql => some (.bool (a.toList == b.toList), .tt)
      | .neq => some (.bool (!(a.toList == b.toList)), .tt)
      | _ => none
    | _ => none
  | _ => none
/-- Two numbers of four words, held against each other. -/
def numEq (a b : Nat) : Bool := words a == words b

/-- A slice that can be read: block, offset, length; what must hold. -/
def rowOf (sym : Bool) (G : Nat → Option Blk) : SV → Option (Nat × Nat × Nat × Blk × Asm)
  | .av (.one (.s id off len _)) => match G id with
    | some b => match within sym (off + len) (widths b.c) with
      | some p => some (id, off, len, b, p)
      | none => none
    | none => none
  | .av (.one (.r id off len _)) => match G id with
    | some b => match within sym (off + len) (widths b.c), Nat.ble 1 b.k with
      | some p, true => some (id, off, len, b, p)
      | _, _ => none
    | none => none
  | _ => none
def readSegs (h : Hint) (c : List Seg) (off n : Nat) : Option (List Seg × Asm) :=
  match h.sym with
  | true => match c with
    | [.arr k zs] => some ([.arr k ((zs.drop off).take n)], .tt)
    | [.ap k F m] => some ([.arr k (((F m).drop off).take n)], .tt)
    | c => match getSegs c off n with
      | some l => some (l, .tt)
      | none => none
  | false => match getSegs c off n with
    | some l => some (l, .tt)
    | none => none
def strOf (zs : List Int) : ByteArray := ⟨(zs.map fun z => UInt8.ofNat z.toNat).toArray⟩

/-- Does a block surely lie somewhere? -/
def hasA (b : Blk) : Bool := match b.k with
  | 0 => true
  | 1 => false
  | _ => Nat.ble 1 (widths b.c)
/-- Places, reckoned so that they stay short. -/
def mulO (j sz : Nat) : Nat := match Nat.beq sz 1 with
  | true => j
  | false => j * sz
def plusO (a b : Nat) : Nat := match Nat.beq a 0 with
  | true => b
  | false => a + b
def slOff (off l h m sz : Nat) : Nat := match Nat.beq l 0 with
  | true => off
  | false => match Nat.blt l h with
    | true => plusO off (mulO l sz)
    | false => if m = l then off else plusO off (mulO l sz)
theorem mulO_eq (j sz : Nat) : mulO j sz = j * sz := by
  unfold mulO
  split
  · rename_i h
    have := Nat.eq_of_beq_eq_true h
    subst this
    rw [Nat.mul_one]
  · rfl
theorem plusO_eq (a b : Nat) : plusO a b = a + b := by
  unfold plusO
  split
  · rename_i h
    have := Nat.eq_of_beq_eq_true h
    subst this
    rw [Nat.zero_add]
  · rfl
theorem slOff_eq (off l h m sz : Nat) (hm : h ≤ m) : slOff off l h m sz = if m = l then off else off + l * sz := by
  unfold slOff
  split
  · rename_i h
    have := Nat.eq_of_beq_eq_true h
    subst this
    rw [Nat.zero_mul, Nat.add_zero]
    split <;> rfl
  · split
    · rename_i hl
      have : l + 1 ≤ h := Nat.le_of_ble_eq_true hl
      rw [if_neg (by omega), plusO_eq, mulO_eq]
    · rw [plusO_eq, mulO_eq]
/-- x[lo:hi:mx] -/
def bnds (sym : Bool) (len cap : Nat) (lo hi mx : Option SV) : Option (Nat × Nat × Nat × Asm) :=
  match mx with
  | some v => match natOf sym cap v, hi with
    | some (m, p1), some u => match natOf sym m u with
      | some (h, p2) => match lo with
        | some z => match natOf sym h z with
          | some (l, p3) => some (l, h, m, p1.and (p2.and p3))
          | none => none
        | none => some (0, h, m, p1.and p2)
      | none => none
    | _, _ => none
  | none => match hi with
    | some u => match natOf sym cap u with
      | some (h, p2) => match lo with
        | some z => match natOf sym h z with
          | some (l, p3) => some (l, h, cap, p2.and p3)
          | none => none
        | none => some (0, h, cap, p2)
      | none => none
    | none => match lo with
      | some z => match natOf sym len z with
        | some (l, p3) => some (l, len, cap, p3)
        | none => none
      | none => some (0, len, cap, .tt)
def sliceOf (sym : Bool) (sz : Nat) (G : Nat → Option Blk) (x : SV) (lo hi mx : Option SV) (arrLen : Nat) : Option Res :=
  match x with
  | .av (.one (.p id off)) => match G id with
    | some b => match hasA b, bnds sym arrLen arrLen lo hi mx with
      | true, some (l, h, m, p) => some { val := .av (.one (.s id (slOff off l h m sz) (h - l) (m - l))), asm := p }
      | _, _ => none
    | none => none
  | .av (.one (.v (.slice none 0 0))) => match bnds sym 0 0 lo hi mx with
    | some (_, _, _, p) => some { val := x, asm := p }
    | none => none
  | .av (.one (.s id off len cap)) => match bnds sym len cap lo hi mx, within sym len cap with
    | some (l, h, m, p), some p0 => some { val := .av (.one (.s id (slOff off l h m sz) (h - l) (m - l))), asm := p0.and p }
    | _, _ => none
  | .av (.one (.r id off len ad)) => match G id with
    | some b => match Nat.ble 1 b.k, Nat.beq sz 1, within sym (off + len) (widths b.c), mx with
      | true, true, some p0, none => match bnds sym len (widths b.c - off) lo hi none with
        | some (l, h, _, p) => some { val := .av (.one (.r id (plusO off l) (h - l) (if l = 0 then ad else off))), asm := p0.and p }
        | none => none
      | true, true, some p0, some v => match bnds sym len (widths b.c - off) lo hi (some v) with
        | some (0, h, m, p) => match within sym 1 m with
          | some p1 => some { val := .av (.one (.s id off h m)), asm := p0.and (p.and p1) }
          | none => none
        | _ => none
      | _, _, _, _ => none
    | none => none
  | _ => none

def evs (ev : Operand → Option SV) : List Operand → Option (List SV)
  | [] => some []
  | x :: l => match ev x, evs ev l with
    | some a, some r => some (a :: r)
    | _, _ => none
def okSize : Nat := 140737488355328
def isNil : SV → Bool
  | .av (.one (.v (.slice none 0 0))) => true
  | _ => false
/-- A slice of nothing, wherever it lies. -/
def isEmp : SV → Bool
  | .av (.one (.v (.slice _ 0 _))) => true
  | _ => false

def killOf : Option Nat → List (Nat × Option Blk)
  | some id => [(id, none)]
  | none => []
/-- What append grows. -/
def oldRow (e : TypeId) (G : Nat → Option Blk) (sym : Bool) : SV → Option (Option Nat × List Seg × Asm)
  | .av (.one (.v (.slice none 0 0))) => some (none, [], .tt)
  | .av (.one (.r id 0 len 0)) => match G id with
    | some ⟨1, ty, c⟩ => match Nat.beq ty e, sym with
      | true, true => some (some id, c, .say (len = widths c))
      | true, false => match Nat.beq len (widths c) with
        | true => some (some id, c, .tt)
        | false => none
      | _, _ => none
    | _ => none
  | .av (.one (.s id 0 len cap)) => match G id with
    | some ⟨0, ty, c⟩ => match Nat.beq ty e, sym with
      | true, true => some (some id, c, .say (len = widths c ∧ cap = widths c))
      | true, false => match Nat.beq len (widths c) && Nat.beq cap (widths c) with
        | true => some (some id, c, .tt)
        | false => none
      | _, _ => none
    | _ => none
  | _ => none

/-- Cells written into the middle of a row. -/
def putRow (sym : Bool) (c : List Seg) (off : Nat) (news : List Seg) : Option (List Seg) :=
  match sym with
  | true => match c, news with
    | [.arr j zs], [.arr k l] => match Nat.beq (ik k) (ik j) with
      | true => some [.arr j (zs.take off ++ l ++ zs.drop (off + l.length))]
      | false => none
    | _, _ => none
  | false => putSegs c off news
def builtinOf (T : List (Nat × Ty)) (G : Nat → Option Blk) (h : Hint) (base : Nat) (b : Builtin) (ts : List TypeId) (args : List SV) : Option Res :=
  match b with
  | .len => match args, ts with
    | [x], [t] => match look T t with
      | none => none
      | some ty => match ty.u with
        | .arr n _ => some { val := ofV (.int .i64 n) }
        | .sl _ => match x with
          | .av (.one (.s _ _ len _)) => some { val := ofV (.int .i64 len) }
          | .av (.one (.r _ _ len _)) => some { val := ofV (.int .i64 len) }
          | .av (.one (.v (.slice _ len _))) => some { val := ofV (.int .i64 len) }
          | _ => none
        | .str => match x with
          | .av (.one (.v (.string s))) => some { val := ofV (.int .i64 s.size) }
          | _ => none
        | _ => none
    | _, _ => none
  | .append => match args, ts with
    | [x, y], [t, t'] => match Nat.beq t t', look T t with
      | true, some ty => match ty.u with
        | .sl e => match look T e with
          | none => none
          | some te => match Nat.beq te.size 1 with
            | false => none
            | true => match isEmp y with
              | true => match x with
                | .av (.one (.v (.slice none 0 0))) => some { val := x }
                | _ => match oldRow e G h.sym x with
                  | some (_, _, p1) => some { val := x, asm := p1 }
                  | none => none
              | false => match oldRow e G h.sym x, rowOf h.sym G y with
                | some (old, c, p1), some (_, off, m, b, p2) => match readSegs h b.c off m with
                  | some (news, p3) => match within h.sym ((widths c + m) * (te.bytes + 1)) okSize, segsOk b.c with
                    | some p4, true => some { val := .av (.one (.r base 0 (widths c + m) 0)), new := [⟨1, e, match h.c with | some l => l | none => join c news⟩], upd := killOf old, asm := p1.and (p2.and (p3.and (p4.and (match h.c with | some l => .say (∀ ρ, segsVals ρ l = segsVals ρ (join c news)) | none => .tt)))) }
                    | _, _ => none
                  | none => none
                | _, _ => none
        | _ => none
      | false, some ty => match ty.u with
        | .sl e => match look T e, look T t' with
          | some te, some tu => match tu.u, Nat.beq te.size 1, te.zero with
            | .int _, true, .one (.v (.int k z0)) => match x, natOf h.sym okSize y with
              | .av (.one (.v (.slice none 0 0))), some (n, p1) => match within h.sym 1 n, within h.sym (n * (te.bytes + 1)) okSize with
                | some p2, some p3 => some { val := .av (.one (.r base 0 n 0)), new := [⟨1, e, [.arr k (List.replicate n z0)]⟩], asm := p1.and (p2.and p3) }
                | _, _ => none
              | x', some (n, p1) => match oldRow e G h.sym x' with
                | some (old, c, p0) => match within h.sym ((widths c + n) * (te.bytes + 1)) okSize with
                  | some p3 => some { val := .av (.one (.r base 0 (widths c + n) 0)), new := [⟨1, e, join c [.arr k (List.replicate n z0)]⟩], upd := killOf old, asm := p1.and (p0.and p3) }
                  | none => none
                | none => none
              | _, none => none
            | _, _, _ => none
          | _, _ => none
        | _ => none
      | _, _ => none
    | _, _ => none
  | .cap => match args, ts with
    | [x], [t] => match look T t with
      | none => none
      | some ty => match ty.u with
        | .sl _ => match x with
          | .av (.one (.s _ _ _ cap)) => some { val := ofV (.int .i64 cap) }
          | .av (.one (.v (.slice _ _ cap))) => some { val := ofV (.int .i64 cap) }
          | _ => none
        | _ => none
    | _, _ => none
  | .copy => match args, ts with
    | [x, y], [t, _] => match look T t with
      | some ty => match ty.u with
        | .sl e => match look T e with
          | some te => match Nat.beq te.size 1, x with
            | true, .av (.one (.s id off len cap)) => match G id with
              | some b => match Nat.beq b.k 0, within h.sym (off + len) (widths b.c), isNil y with
                | true, some _, true => some { val := ofV (.int .i64 0) }
                | true, some p0, false => match rowOf h.sym G y with
                  | some (_, o2, m, b2, p2) => match within h.sym m len, readSegs h b2.c o2 m, segsOk b2.c with
                    | some p3, some (news, p4), true => match putRow h.sym b.c off news with
                      | some c => some { val := ofV (.int .i64 m), upd := [(id, some ⟨0, b.ty, c⟩)], asm := p0.and (p2.and (p3.and p4)) }
                      | none => none
                    | _, _, _ => none
                  | none => none
                | _, _, _ => none
              | none => none
            | _, _ => none
          | none => none
        | _ => none
      | none => none
    | _, _ => none
  | .min => match args with
    | [.av (.one (.v (.int k x))), .av (.one (.v (.int _ y)))] => some { val := ofV (.int k (if y < x then y else x)) }
    | _ => none
  | _ => none

/-- A struct's fields, one by one, held against another one's. -/
def eqOne (ty : Ty) (u v : List Seg) : Option Bool :=
  match ty.u with
  | .int _ => match u, v with
    | [.v (.int k a)], [.v (.int k' b)] => match Nat.beq (ik k) (ik k') with
      | true => some (a == b)
      | false => none
    | _, _ => none
  | .arr n _ => match ty.eqk, u, v with
    | some .u64, [.num a], [.num b] => match Nat.beq n 4 with
      | true => some (numEq a b)
      | false => none
    | some q, u, v => match intsOf q u, intsOf q v with
      | some x, some y => match Nat.beq x.length n && Nat.beq y.length n with
        | true => some (x == y)
        | false => none
      | _, _ => none
    | none, _, _ => none
  | _ => none
def eqFs (T : List (Nat × Ty)) (x y : List Seg) : List (Nat × TypeId) → Option Bool
  | [] => some true
  | f :: fs => match look T f.2 with
    | some ty => match getSegs x f.1 ty.size, getSegs y f.1 ty.size with
      | some u, some v => match eqOne ty u v, eqFs T x y fs with
        | some b, some c => some (b && c)
        | _, _ => none
      | _, _ => none
    | none => none
/-- A key of integers, and what a known map has under it: told by comparisons, one behind the other. -/
def keySegs (ks : List Int) : List Seg := ks.map fun z => .v (.int .i64 z)
def findM (T : List (Nat × Ty)) (fs : List (Nat × TypeId)) (x : List Seg) : List (List Int × Int) → Option (Bool × Int)
  | [] => some (false, 0)
  | y :: l => match eqFs T x (keySegs y.1) fs, findM T fs x l with
    | some true, some (false, _) => some (true, y.2)
    | some false, some (c, z) => some (c, z)
    | _, _ => none
theorem findM_perm {T : List (Nat × Ty)} {fs : List (Nat × TypeId)} {x : List Seg} {l l' : List (List Int × Int)} (h : l.Perm l') : findM T fs x l = findM T fs x l' := by
  induction h with
  | nil => rfl
  | cons y h ih => simp only [findM, ih]
  | swap y z l =>
    simp only [findM]
    generalize findM T fs x l = r
    generalize eqFs T x (keySegs y.1) fs = p
    generalize eqFs T x (keySegs z.1) fs = q
    rcases p with _ | _ | _ <;> rcases q with _ | _ | _ <;> rcases r with _ | ⟨_ | _, r⟩ <;> rfl
  | trans h1 h2 i1 i2 => exact i1.trans i2
def intF (T : List (Nat × Ty)) (f : Nat × TypeId) : Bool := match look T f.2 with
  | some ty => match ty.u with
    | .int _ => true
    | _ => false
  | none => false
/-- A string's bytes. -/
def bytesOf (s : ByteArray) : List Int := s.data.toList.map fun b => (b.toNat : Int)
def aop1 (T : List (Nat × Ty)) (O : List (Nat × Ent)) (G : Nat → Option Blk) (ev : Operand → Option SV) (h : Hint) (base : Nat) (o : Op) : Option Res :=
  match o with
  | .move x => ret (ev x)
  | .assign x => ret (ev x)
  | .pick c a b => match ev c with
    | some (.av (.one (.v (.bool true)))) => ret (ev a)
    | some (.av (.one (.v (.bool false)))) => ret (ev b)
    | _ => none
  | .alloc t => match look T t with
    | some ty => some { val := .av (.one (.p base 0)), new := [⟨0, t, ty.zero.segs⟩] }
    | none => none
  | .box t x => match ev x with
    | some (.av a) => match segsOk a.segs with
      | true => some { val := .av (.one (.p base 0)), new := [⟨0, t, a.segs⟩] }
      | false => none
    | _ => none
  | .build t parts => match look T t with
    | some ty => match ty.u with
      | .arr n e => match look T e, fillIn (place T (.arr n e)) ev ty.zero.segs parts.toList with
        | some _, some l => some { val := .av (normNum l) }
        | _, _ => none
      | .st fs => match fillIn (place T (.st fs)) ev ty.zero.segs parts.toList with
        | some l => some { val := .av (mkAgg l) }
        | none => none
      | _ => none
    | none => none
  | .buildSlice t len parts => match look T t with
    | some ty => match ty.u with
      | .sl e => match look T e with
        | some te => match Nat.ble (len * te.size) 16777216, fillIn (place T (.arr len e)) ev (times len te.zero.segs) parts.toList with
          | true, some l => some { val := .av (.one (.s base 0 len len)), new := [⟨0, e, l⟩] }
          | _, _ => none
        | none => none
      | _ => none
    | none => none
  | .load t x => match look T t, ev x with
    | some ty, some (.av (.one (.p id off))) => match G id with
      | some b => match h.c with
        | some [.r i u n d] => match ty.u.agg with
          | false => some { val := .av (.one (.r i u n d)), asm := .say (∀ ρ : Nat → Loc, (segsVals ρ b.c)[off]? = some (Seg.conc ρ (.r i u n d))) }
          | true => none
        | some [.v (.slice a len cap), .arr k zs] => match ty.u.agg with
          | false => some { val := .av (.one (.s base 0 len cap)), new := [⟨2, 0, [.arr k zs]⟩], upd := [(Nat.succ base, none)], asm := .and (.say (∀ ρ : Nat → Loc, (segsVals ρ b.c)[off]? = some (.slice a len cap))) (.row a len cap k zs) }
          | true => none
        | some [.v x] => match ty.u.agg with
          | false => some { val := .av (.one (.v x)), asm := .say (∀ ρ : Nat → Loc, (segsVals ρ b.c)[off]? = some x) }
          | true => none
        | some _ => none
        | none => match readAt ty h.sym b.c off with
          | some (v, p) => some { val := v, asm := p }
          | none => none
      | none => none
    | _, _ => none
  | .store t x y => match look T t, ev x, ev y with
    | some ty, some (.av (.one (.p id off))), some (.av a) => match G id with
      | some b => match Nat.beq b.k 0 with
        | true => match storeAt ty h.sym b.c off a with
          | some (c, p) => some { val := ofV undef, upd := [(id, some ⟨0, b.ty, c⟩)], asm := p }
          | none => none
        | false => match Nat.beq b.k 1 && Nat.ble 1 ty.size with
          | true => match storeAt ty h.sym b.c off a with
            | some (c, p) => some { val := ofV undef, upd := [(id, some ⟨1, b.ty, c⟩)], asm := p }
            | none => none
          | false => none
      | none => none
    | _, _, _ => none
  | .nilCheck x => match ev x with
    | some (.av (.one (.p id off))) => match G id with
      | some b => match hasA b with
        | true => some { val := .av (.one (.p id off)) }
        | false => none
      | none => none
    | _ => none
  | .binOp op t x y _ => match ev x, ev y with
    | some (.av (.one (.v (.bool a)))), some (.av (.one (.v (.bool b)))) => match look T t with
      | some ty => match ty.u with
        | .bool => match op with
          | .eql => some { val := ofV (.bool (a == b)) }
          | .neq => some { val := ofV (.bool (!(a == b))) }
          | _ => none
        | _ => none
      | none => none
    | some (.av (.one (.v (.pointer none)))), some (.av (.one (.v (.pointer none)))) => match look T t with
      | some ty => match ty.u, op with
        | .ptr _, .eql => some { val := ofV (.bool true) }
        | .ptr _, .neq => some { val := ofV (.bool false) }
        | _, _ => none
      | none => none
    | some (.av (.one (.v a))), some (.av (.one (.v b))) => match binVal h.sym op a b with
      | some (v, p) => some { val := ofV v, asm := p }
      | none => none
    | some (.av (.one (.p id _))), some (.av (.one (.v (.pointer none)))) => match look T t with
      | some ty => match ty.u, G id with
        | .ptr _, some b => match hasA b, op with
          | true, .eql => some { val := ofV (.bool false) }
          | true, .neq => some { val := ofV (.bool true) }
          | _, _ => none
        | _, _ => none
      | none => none
    | some (.av (.one (.num a))), some (.av (.one (.num b))) => match look T t with
      | some ty => match ty.u, ty.eqk with
        | .arr 4 _, some .u64 => match op with
          | .eql => some { val := ofV (.bool (numEq a b)) }
          | .neq => some { val := ofV (.bool (!numEq a b)) }
          | _ => none
        | _, _ => none
      | none => none
    | some (.av a), some (.av b) => match look T t with
      | some ty => match ty.u, ty.eqk with
        | .arr n _, some q => match intsOf q a.segs, intsOf q b.segs, aggB a && aggB b with
          | some u, some v, true => match Nat.beq u.length n && Nat.beq v.length n, op with
            | true, .eql => some { val := ofV (.bool (u == v)) }
            | true, .neq => some { val := ofV (.bool (!(u == v))) }
            | _, _ => none
          | _, _, _ => none
        | .st fs, _ => match ty.eqs && (aggB a && aggB b), eqFs T a.segs b.segs fs, op with
          | true, some e, .eql => some { val := ofV (.bool e) }
          | true, some e, .neq => some { val := ofV (.bool (!e)) }
          | _, _, _ => none
        | _, _ => none
      | none => none
    | _, _ => none
  | .unOp op _ x => match ev x with
    | some (.av (.one (.v (.bool b)))) => match op with
      | .not => some { val := ofV (.bool !b) }
      | _ => none
    | some (.av (.one (.v (.int k z)))) => match op with
      | .neg => some { val := ofV (.int k (k.wrap (0 - z))) }
      | .xor => some { val := ofV (.int k (ixor k (if k.signed then -1 else k.max) z)) }
      | _ => none
    | _ => none
  | .convert s d x => match look T s, look T d, ev x with
    | some ts, some ty, some x => match ty.u with
      | .int k => match x with
        | .av (.one (.v (.int _ n))) => some { val := ofV (.int k (k.wrap n)) }
        | _ => none
      | .sl e => match ts.u, look T e, x with
        | .str, some te, .av (.one (.v (.string s))) => match te.u with
          | .int .u8 => some { val := .av (.one (.r base 0 (bytesOf s).length 0)), new := [⟨2, e, [.arr .u8 (bytesOf s)]⟩] }
          | _ => none
        | .sl _, some te, .av (.one (.s id 0 len cap)) => match te.u, G id with
          | .int .u8, some b => match Nat.beq s d, Nat.beq len cap, Nat.beq b.k 0, Nat.beq (widths b.c) len with
            | true, true, true, true => some { val := .av (.one (.r base 0 len 0)), new := [⟨2, e, b.c⟩], upd := [(id, none)] }
            | _, _, _, _ => none
          | _, _ => none
        | _, _, _ => none
      | .str => match ts.u with
        | .sl e => match look T e with
          | some te => match te.u with
            | .int .u8 => match isNil x with
              | true => some { val := ofV (.string .empty) }
              | false => match rowOf h.sym G x with
                | some (_, off, m, b, p1) => match readSegs h b.c off m with
                  | some (l, p2) => match intsOf .u8 l with
                    | some zs => some { val := ofV (.string (strOf zs)), asm := p1.and p2 }
                    | none => none
                  | none => none
                | none => none
            | _ => none
          | none => none
        | _ => none
      | _ => none
    | _, _, _ => none
  | .sliceToArrayPointer t x => match look T t, ev x with
    | some ty, some x => match ty.u with
      | .arr n _ => match rowOf h.sym G x with
        | some (id, off, m, _, p1) => match within h.sym n m, Nat.ble 1 n with
          | some p2, true => some { val := .av (.one (.p id off)), asm := p1.and p2 }
          | _, _ => none
        | none => none
      | _ => none
    | _, _ => none
  | .makeSlice t l c => match look T t, ev l, ev c with
    | some ty, some l, some c => match ty.u with
      | .sl e => match look T e with
        | some te => match te.zero with
          | .one (.v (.int k z0)) => match natOf h.sym okSize l, natOf h.sym okSize c with
            | some (n, p1), some (m, p2) => match within h.sym (n * (te.bytes + 1)) okSize, (match h.sym with | true => some (.say (n = m)) | false => match Nat.beq n m with | true => some .tt | false => none) with
              | some p3, some p4 => some { val := .av (.one (.s base 0 n n)), new := [⟨0, e, [.arr k (List.replicate n z0)]⟩], asm := p1.and (p2.and (p3.and p4)) }
              | _, _ => none
            | _, _ => none
          | _ => none
        | none => none
      | _ => none
    | _, _, _ => none
  | .slice t x lo hi mx => match look T t, ev x with
    | some ty, some x =>
      let g (y : Option Operand) : Option (Option SV) := match y with
        | none => some none
        | some z => match ev z with
          | some v => some (some v)
          | none => none
      match g lo, g hi, g mx with
      | some lo, some hi, some mx => match ty.u with
        | .arr n e => match look T e, x with
          | some te, .av (.one (.p id off)) => sliceOf h.sym te.size G (.av (.one (.p id off))) lo hi mx n
          | _, _ => none
        | .sl e => match look T e, x with
          | some _, .av (.one (.p _ _)) => none
          | some te, x => sliceOf h.sym te.size G x lo hi mx 0
          | none, _ => none
        | .str => match x, mx with
          | .av (.one (.v (.string s))), none => match bnds h.sym s.size s.size lo hi none with
            | some (l, u, _, p) => some { val := ofV (.string (s.extract l u)), asm := p }
            | none => none
          | _, _ => none
        | _ => none
      | _, _, _ => none
    | _, _ => none
  | .fieldAddr t x f => match look T t, ev x with
    | some ty, some (.av (.one (.p id off))) => match ty.u, place T ty.u f, G id with
      | .st _, some (o, n), some b => match Nat.ble 1 n && hasA b with
        | true => some { val := .av (.one (.p id (off + o))) }
        | false => none
      | _, _, _ => none
    | _, _ => none
  | .field t x f => match look T t, ev x with
    | some ty, some (.av a) => match ty.u with
      | .st fs => match fs[f]? with
        | some (off, t') => match look T t' with
          | some ty' => match segsOk a.segs && aggB a, readAt ty' false a.segs off with
            | true, some (v, p) => some { val := v, asm := p }
            | _, _ => none
          | none => none
        | none => none
      | _ => none
    | _, _ => none
  | .indexAddr t x i => match look T t, ev x, ev i with
    | some ty, some x, some i => match ty.u with
      | .arr n e => match x, look T e, natOf h.sym (n - 1) i with
        | .av (.one (.p id off)), some te, some (j, p) => match G id with
          | some b => match Nat.ble 1 n && hasA b with
            | true => some { val := .av (.one (.p id (plusO off (mulO j te.size)))), asm := p }
            | false => none
          | none => none
        | _, _, _ => none
      | .sl e => match rowOf h.sym G x, look T e with
        | some (id, off, m, _, p1), some te => match natOf h.sym (m - 1) i with
          | some (j, p2) => match within h.sym 1 m with
            | some p3 => some { val := .av (.one (.p id (plusO off (mulO j te.size)))), asm := p1.and (p2.and p3) }
            | none => none
          | none => none
        | _, _ => none
      | _ => none
    | _, _, _ => none
  | .index t x i => match look T t, ev x, ev i with
    | some ty, some (.av a), some i => match ty.u with
      | .arr n e => match look T e, natOf h.sym (n - 1) i with
        | some te, some (j, p) => match segsOk a.segs && aggB a && Nat.ble 1 n, readAt te h.sym a.segs (mulO j te.size) with
          | true, some (v, p') => some { val := v, asm := p.and p' }
          | _, _ => none
        | _, _ => none
      | _ => none
    | _, _, _ => none
  | .extract x i => match ev x with
    | some (.tup l) => match l[i]? with
      | some a => some { val := .av a }
      | none => none
    | _ => none
  | .lookup t x i true => match look T t, ev x, ev i with
    | some ty, some (.av (.one (.m id))), some (.av k) => match ty.u, G id with
      | .mp kt et, some b => match look T kt, look T et with
        | some tk, some te => match tk.u, te.zero with
          | .st fs, .one (.v (.int .i64 (.ofNat 0))) => match Nat.ble 3 b.k && (tk.eqs && (aggB k && fs.all (intF T))), mapTab (b.k - 3) with
            | true, y :: l => match findM T fs k.segs (y :: l) with
              | some (c, z) => some { val := .tup [.one (.v (.int .i64 z)), .one (.v (.bool c))] }
              | none => none
            | _, _ => none
          | _, _ => none
        | _, _ => none
      | _, _ => none
    | _, _, _ => none
  | .call c => match c.callee with
    | .value (.func f) => match look O f, evs ev c.args.toList with
      | some e, some l => e l G base
      | _, _ => none
    | .builtin b => match evs ev c.args.toList with
      | some l => builtinOf T G h base b c.argTypes.toList l
      | none => none
    | _ => none
  | _ => none

/-- A row that is cut: what lies behind the cut is no longer told. -/
def truncOf (o : Op) (h : Hint) (G : Nat → Option Blk) (r : Res) : Option Res :=
  match o with
  | .slice _ _ none _ none => match h.c with
    | none => some r
    | some l => match r.val, r.new, r.upd with
      | .av (.one (.r id 0 n 0)), [], [] => match G id with
        | some ⟨1, ty, c⟩ => some { r with upd := [(id, some ⟨1, ty, l⟩)], asm := r.asm.and (.say (∀ ρ, segsVals ρ l = (segsVals ρ c).take n)) }
        | _ => none
      | _, _, _ => none
  | _ => some r
def aop (T : List (Nat × Ty)) (O : List (Nat × Ent)) (G : Nat → Option Blk) (ev : Operand → Option SV) (h : Hint) (base : Nat) (o : Op) : Option Res :=
  match aop1 T O G ev h base o with
  | none => none
  | some r0 => match truncOf o h G r0 with
    | none => none
    | some r => match h.is with
      | none => some r
      | some s => some { r with val := s, asm := r.asm.and (.say (∀ ρ : Nat → Loc, r.val.conc ρ = s.conc ρ)) }

end Go.Proofs.YtpefomdegbmecaaDoor.Am
/- The abstract machine: what its lists of cells say. Conditions: none. -/
namespace Go.Proofs.YtpefomdegbmecaaDoor.Am
set_option linter.unusedVariables false
set_option linter.unusedSimpArgs false
open Go Go.RowKit

theorem Seg.vals_len (ρ : Nat → Loc) (s : Seg) : (s.vals ρ).length = s.width := by
  cases s <;> simp [Seg.vals, Seg.width, words]
theorem segsVals_nil (ρ : Nat → Loc) : segsVals ρ [] = [] := rfl
theorem segsVals_cons (ρ : Nat → Loc) (x : Seg) (l : List Seg) : segsVals ρ (x :: l) = x.vals ρ ++ segsVals ρ l := by simp [segsVals]
theorem segsVals_append (ρ : Nat → Loc) (a b : List Seg) : segsVals ρ (a ++ b) = segsVals ρ a ++ segsVals ρ b := by simp [segsVals]
theorem segsVals_one (ρ : Nat → Loc) (x : Seg) : segsVals ρ [x] = x.vals ρ := by simp [segsVals]
theorem segsVals_len (ρ : Nat → Loc) : ∀ (l : List Seg), (segsVals ρ l).length = widths l
  | [] => rfl
  | x :: l => by rw [segsVals_cons, List.length_append, Seg.vals_len, segsVals_len ρ l]; rfl

theorem cut_spec (ρ : Nat → Loc) : ∀ (l : List Seg) (n : Nat) (a b : List Seg), cut l n = some (a, b) → segsVals ρ a ++ segsVals ρ b = segsVals ρ l ∧ (segsVals ρ a).length = n
  | [], 0, a, b, h => by
    simp only [cut, Option.some.injEq, Prod.mk.injEq] at h
    obtain ⟨rfl, rfl⟩ := h
    exact ⟨rfl, rfl⟩
  | [], n + 1, a, b, h => by simp [cut] at h
  | x :: l, 0, a, b, h => by
    simp only [cut, Option.some.injEq, Prod.mk.injEq] at h
    obtain ⟨rfl, rfl⟩ := h
    exact ⟨rfl, rfl⟩
  | x :: l, n + 1, a, b, h => by
    unfold cut at h
    split at h
    · rename_i hw
      replace hw := Nat.le_of_ble_eq_true hw
      split at h
      · rename_i a' b' h'
        simp only [Option.some.injEq, Prod.mk.injEq] at h
        obtain ⟨rfl, rfl⟩ := h
        obtain ⟨h1, h2⟩ := cut_spec ρ l _ _ _ h'
        rw [segsVals_cons, segsVals_cons, List.append_assoc, h1]
        refine ⟨rfl, ?_⟩
        rw [List.length_append, h2, Seg.vals_len]
        omega
      · cases h
    · rename_i hw
      replace hw : ¬ x.width ≤ n + 1 := fun hc => by rw [Nat.ble_eq_true_of_le hc] at hw; cases hw
      split at h
      · rename_i m
        simp only [Option.some.injEq, Prod.mk.injEq] at h
        obtain ⟨rfl, rfl⟩ := h
        rw [segsVals_one, segsVals_cons, segsVals_cons, ← List.append_assoc]
        have e : Seg.vals ρ (.arr .u64 ((words m).take (n + 1))) ++ Seg.vals ρ (.arr .u64 ((words m).drop (n + 1))) = Seg.vals ρ (.num m) := by
          simp only [Seg.vals]
          rw [← List.map_append, List.take_append_drop]
        rw [e]
        refine ⟨rfl, ?_⟩
        simp only [Seg.width] at hw
        simp only [Seg.vals, List.length_map, List.length_take, words, List.length_cons, List.length_nil]
        omega
      · rename_i k zs
        simp only [Option.some.injEq, Prod.mk.injEq] at h
        obtain ⟨rfl, rfl⟩ := h
        rw [segsVals_one, segsVals_cons, segsVals_cons, ← List.append_assoc]
        have e : Seg.vals ρ (.arr k (zs.take (n + 1))) ++ Seg.vals ρ (.arr k (zs.drop (n + 1))) = Seg.vals ρ (.arr k zs) := by
          simp only [Seg.vals]
          rw [← List.map_append, List.take_append_drop]
        rw [e]
        refine ⟨rfl, ?_⟩
        simp only [Seg.width] at hw
        simp only [Seg.vals, List.length_map, List.length_take]
        omega
      · rename_i k F m
        simp only [Option.some.injEq, Prod.mk.injEq] at h
        obtain ⟨rfl, rfl⟩ := h
        rw [segsVals_one, segsVals_cons, segsVals_cons, ← List.append_assoc]
        have e : Seg.vals ρ (.arr k ((F m).take (n + 1))) ++ Seg.vals ρ (.arr k ((F m).drop (n + 1))) = Seg.vals ρ (.ap k F m) := by
          simp only [Seg.vals]
          rw [← List.map_append, List.take_append_drop]
        rw [e]
        refine ⟨rfl, ?_⟩
        simp only [Seg.width] at hw
        simp only [Seg.vals, List.length_map, List.length_take]
        omega
      · cases h

theorem getSegs_spec (ρ : Nat → Loc) {l m : List Seg} {off n : Nat} (h : getSegs l off n = some m) : segsVals ρ m = ((segsVals ρ l).drop off).take n ∧ (segsVals ρ m).length = n := by
  unfold getSegs at h
  split at h
  · rename_i a r h1
    split at h
    · rename_i m' c h2
      simp only [Option.some.injEq] at h
      subst h
      obtain ⟨e1, e2⟩ := cut_spec ρ _ _ _ _ h1
      obtain ⟨e3, e4⟩ := cut_spec ρ _ _ _ _ h2
      refine ⟨?_, e4⟩
      rw [← e1, ← e2, List.drop_left, ← e3, ← e4, List.take_left]
    · cases h
  · cases h
theorem getSegs_at (ρ : Nat → Loc) {l m : List Seg} {off n : Nat} (h : getSegs l off n = some m) : ∀ j u, (segsVals ρ m)[j]? = some u → (segsVals ρ l)[off + j]? = some u := by
  intro j u hj
  obtain ⟨h1, h2⟩ := getSegs_spec ρ h
  have hlt : j < n := by rw [← h2]; exact (List.getElem?_eq_some_iff.1 hj).1
  rw [h1, List.getElem?_take_of_lt hlt, List.getElem?_drop] at hj
  exact hj
theorem cellOf_spec (ρ : Nat → Loc) {x : Seg} {off : Nat} (h : off < x.width) : (x.vals ρ)[off]? = some ((cellOf off x).conc ρ) := by
  cases x
  case num m =>
    simp only [Seg.width] at h
    have hl : off < (words m).length := by simp only [words, List.length_cons, List.length_nil]; omega
    simp [Seg.vals, cellOf, Seg.conc, List.getD_eq_getElem?_getD, List.getElem?_eq_getElem hl]
  case arr k zs =>
    simp only [Seg.width] at h
    simp [Seg.vals, cellOf, Seg.conc, List.getD_eq_getElem?_getD, List.getElem?_eq_getElem h]
  case ap k F n =>
    simp only [Seg.width] at h
    simp [Seg.vals, cellOf, Seg.conc, List.getD_eq_getElem?_getD, List.getElem?_eq_getElem h]
  case vs l =>
    simp only [Seg.width] at h
    simp [Seg.vals, cellOf, Seg.conc, List.getD_eq_getElem?_getD, List.getElem?_eq_getElem h]
  all_goals
    simp only [Seg.width] at h
    obtain rfl : off = 0 := by omega
    rfl
theorem cell_spec (ρ : Nat → Loc) : ∀ (l : List Seg) (off : Nat) (x : Seg), cell l off = some x → (segsVals ρ l)[off]? = some (x.conc ρ)
  | [], _, _, h => by simp [cell] at h
  | y :: l, off, x, h => by
    unfold cell at h
    split at h
    · rename_i hw
      replace hw := Nat.le_of_ble_eq_true hw
      rw [segsVals_cons, List.getElem?_append_right (by rw [Seg.vals_len]; exact hw), Seg.vals_len]
      exact cell_spec ρ l _ x h
    · rename_i hw
      replace hw : ¬ y.width ≤ off := fun hc => by rw [Nat.ble_eq_true_of_le hc] at hw; cases hw
      simp only [Option.some.injEq] at h
      subst h
      rw [segsVals_cons, List.getElem?_append_left (by rw [Seg.vals_len]; omega)]
      exact cellOf_spec ρ (by omega)
theorem ik_inj {j k : IntKind} (h : Nat.beq (ik j) (ik k) = true) : j = k := by
  have := Nat.eq_of_beq_eq_true h
  cases j <;> cases k <;> first | rfl | (simp [ik] at this)
theorem putOf_spec (ρ : Nat → Loc) {y x : Seg} {off : Nat} {r : List Seg} (hy : y.width = 1) (hc : ∀ ρ, y.vals ρ = [y.conc ρ]) (h : putOf off y x = some r) (hw : off < x.width) : segsVals ρ r = (x.vals ρ).set off (y.conc ρ) := by
  cases x
  case num m =>
    simp only [putOf] at h
    split at h
    · rename_i k z
      split at h
      · rename_i hk
        have := ik_inj (k := .u64) hk
        subst this
        simp only [Option.some.injEq] at h
        subst h
        simp [segsVals_one, Seg.vals, Seg.conc, List.map_set]
      · cases h
    · cases h
  case arr j zs =>
    simp only [putOf] at h
    split at h
    · rename_i k z
      split at h
      · rename_i hk
        have := ik_inj hk
        subst this
        simp only [Option.some.injEq] at h
        subst h
        simp [segsVals_one, Seg.vals, Seg.conc, List.map_set]
      · cases h
    · cases h
  case ap j F n =>
    simp only [putOf] at h
    split at h
    · rename_i k z
      split at h
      · rename_i hk
        have := ik_inj hk
        subst this
        simp only [Option.some.injEq] at h
        subst h
        simp [segsVals_one, Seg.vals, Seg.conc, List.map_set]
      · cases h
    · cases h
  case vs l => cases h
  all_goals
    simp only [Seg.width] at hw
    obtain rfl : off = 0 := by omega
    simp only [putOf, Option.some.injEq] at h
    subst h
    rw [segsVals_one, hc]
    rfl
theorem putCell_spec (ρ : Nat → Loc) {y : Seg} (hy : y.width = 1) (hc : ∀ ρ, y.vals ρ = [y.conc ρ]) : ∀ (l : List Seg) (off : Nat) (r : List Seg), putCell y l off = some r → segsVals ρ r = (segsVals ρ l).set off (y.conc ρ) ∧ off < (segsVals ρ l).length
  | [], _, _, h => by simp [putCell] at h
  | x :: l, off, r, h => by
    unfold putCell at h
    split at h
    · rename_i hw
      replace hw := Nat.le_of_ble_eq_true hw
      split at h
      · rename_i r' h'
        simp only [Option.some.injEq] at h
        subst h
        obtain ⟨e1, e2⟩ := putCell_spec ρ hy hc l _ _ h'
        rw [segsVals_cons, segsVals_cons, e1, List.set_append_right _ _ (by rw [Seg.vals_len]; exact hw), Seg.vals_len]
        refine ⟨rfl, ?_⟩
        rw [List.length_append, Seg.vals_len]; omega
      · cases h
    · rename_i hw
      replace hw : ¬ x.width ≤ off := fun hc => by rw [Nat.ble_eq_true_of_le hc] at hw; cases hw
      split at h
      · rename_i r' h'
        simp only [Option.some.injEq] at h
        subst h
        rw [segsVals_append, segsVals_cons, putOf_spec ρ hy hc h' (by omega), List.set_append_left _ _ (by rw [Seg.vals_len]; omega)]
        refine ⟨rfl, ?_⟩
        rw [List.length_append, Seg.vals_len]; omega
      · cases h
theorem putSegs_spec (ρ : Nat → Loc) {l news r : List Seg} {off : Nat} (h : putSegs l off news = some r) : segsVals ρ r = (segsVals ρ l).take off ++ segsVals ρ news ++ (segsVals ρ l).drop (off + (segsVals ρ news).length) ∧ off + (segsVals ρ news).length ≤ (segsVals ρ l).length := by
  unfold putSegs at h
  split at h
  · rename_i a t h1
    split at h
    · rename_i m c h2
      simp only [Option.some.injEq] at h
      subst h
      obtain ⟨e1, e2⟩ := cut_spec ρ _ _ _ _ h1
      obtain ⟨e3, e4⟩ := cut_spec ρ _ _ _ _ h2
      rw [segsVals_append, segsVals_append, ← e1, ← e2, List.take_left, ← e3, segsVals_len ρ news, ← e4]
      have e5 : (segsVals ρ a ++ (segsVals ρ m ++ segsVals ρ c)).drop ((segsVals ρ a).length + (segsVals ρ m).length) = segsVals ρ c := by
        rw [← List.append_assoc, ← List.length_append, List.drop_left]
      rw [e5]
      refine ⟨rfl, ?_⟩
      simp only [List.length_append]
      omega
    · cases h
  · cases h
theorem join_spec (ρ : Nat → Loc) (a b : List Seg) : segsVals ρ (join a b) = segsVals ρ a ++ segsVals ρ b := by
  unfold join
  split
  · simp [segsVals_one, Seg.vals, Seg.conc, segsVals_nil]
  · split
    · rename_i h
      have := ik_inj h
      subst this
      simp [segsVals_one, Seg.vals, Seg.conc]
    · simp [segsVals_cons, segsVals_nil]
  · split
    · rename_i h
      have := ik_inj h
      subst this
      simp [segsVals_one, Seg.vals]
    · simp [segsVals_cons, segsVals_nil]
  · exact segsVals_append ρ _ _
theorem mkAgg_conc (ρ : Nat → Loc) (l : List Seg) : (mkAgg l).conc ρ = .agg (segsVals ρ l).toArray := by
  unfold mkAgg
  split
  · simp [AV.conc, Seg.conc, segsVals_one, Seg.vals]
  · simp [AV.conc, Seg.conc, segsVals_one, Seg.vals]
  · simp [AV.conc, Seg.conc, segsVals_one, Seg.vals]
  · rfl
theorem mkAgg_segs (l : List Seg) : (mkAgg l).segs = l := by
  unfold mkAgg
  split <;> rfl
theorem intsOf_spec (ρ : Nat → Loc) {k : IntKind} : ∀ (l : List Seg) (zs : List Int), intsOf k l = some zs → segsVals ρ l = zs.map (Value.int k)
  | [], zs, h => by simp only [intsOf, Option.some.injEq] at h; subst h; rfl
  | .v (.int j z) :: l, zs, h => by
    simp only [intsOf] at h
    split at h
    · rename_i r hk hr
      have := ik_inj hk
      subst this
      simp only [Option.some.injEq] at h
      subst h
      rw [segsVals_cons, intsOf_spec ρ l _ hr]
      rfl
    · cases h
  | .arr j ys :: l, zs, h => by
    simp only [intsOf] at h
    split at h
    · rename_i r hk hr
      have := ik_inj hk
      subst this
      simp only [Option.some.injEq] at h
      subst h
      rw [segsVals_cons, intsOf_spec ρ l _ hr]
      simp [Seg.vals]
    · cases h
  | .ap j F n :: l, zs, h => by
    simp only [intsOf] at h
    split at h
    · rename_i r hk hr
      have := ik_inj hk
      subst this
      simp only [Option.some.injEq] at h
      subst h
      rw [segsVals_cons, intsOf_spec ρ l _ hr]
      simp [Seg.vals]
    · cases h
  | .v (.bool _) :: _, _, h | .v (.float _ _) :: _, _, h | .v (.complex _ _ _) :: _, _, h | .v (.string _) :: _, _, h | .v (.pointer _) :: _, _, h | .v (.slice _ _ _) :: _, _, h | .v (.map _) :: _, _, h | .v (.chan _) :: _, _, h | .v (.func _ _ _) :: _, _, h | .v .nilFunc :: _, _, h | .v (.iface _ _) :: _, _, h | .v .nilIface :: _, _, h | .v (.agg _) :: _, _, h | .v (.tuple _) :: _, _, h | .num _ :: _, _, h | .p _ _ :: _, _, h | .s _ _ _ _ :: _, _, h | .r _ _ _ _ :: _, _, h | .vs _ :: _, _, h => by simp [intsOf] at h
theorem word_four {a b c d : Nat} (ha : a < 18446744073709551616) (hb : b < 18446744073709551616) (hc : c < 18446744073709551616) (hd : d < 18446744073709551616) : words (a + 18446744073709551616 * b + 340282366920938463463374607431768211456 * c + 6277101735386680763835789423207666416102355444464034512896 * d) = [(a : Int), b, c, d] := by
  have e1 : (18446744073709551616 : Nat) ^ 0 = 1 := rfl
  have e2 : (18446744073709551616 : Nat) ^ 1 = 18446744073709551616 := rfl
  have e3 : (18446744073709551616 : Nat) ^ 2 = 340282366920938463463374607431768211456 := by decide +kernel
  have e4 : (18446744073709551616 : Nat) ^ 3 = 6277101735386680763835789423207666416102355444464034512896 := by decide +kernel
  simp only [words, word, e1, e2, e3, e4, List.cons.injEq, Int.natCast_inj, and_true]
  refine ⟨?_, ?_, ?_, ?_⟩ <;> omega
theorem normNum_conc (ρ : Nat → Loc) (l : List Seg) : (normNum l).conc ρ = .agg (segsVals ρ l).toArray := by
  unfold normNum
  split
  · rename_i x y z u h
    split
    · rename_i a b c d
      split
      · rename_i hb
        simp only [Bool.and_eq_true] at hb
        have hlt : ∀ {n : Nat}, b64 n = true → n < 18446744073709551616 := fun h => Nat.lt_of_succ_le (Nat.le_of_ble_eq_true h)
        rw [intsOf_spec ρ l _ h]
        simp only [AV.conc, Seg.conc]
        rw [word_four (hlt hb.1.1.1) (hlt hb.1.1.2) (hlt hb.1.2) (hlt hb.2)]
        rfl
      · exact mkAgg_conc ρ l
    · exact mkAgg_conc ρ l
  · exact mkAgg_conc ρ l
/-- The cells of a value. -/
theorem AV.cells (ρ : Nat → Loc) {a : AV} (h : segsOk a.segs = true) : (a.conc ρ).cells = (segsVals ρ a.segs).toArray := by
  cases a with
  | agg l => rfl
  | one s =>
    cases s
    case v x =>
      simp only [AV.segs, segsOk, List.all_cons, List.all_nil, Bool.and_true, Seg.ok] at h
      cases x <;> first | rfl | (simp [cellB] at h)
    all_goals simp [AV.conc, Seg.conc, Value.cells, AV.segs, segsVals_one, Seg.vals]
theorem Seg.vals_cell (ρ : Nat → Loc) {s : Seg} (h : s.ok = true) : ∀ u ∈ s.vals ρ, u.oneCell' = true := by
  intro u hu
  cases s
  case num m => simp only [Seg.vals, List.mem_map] at hu; obtain ⟨z, _, rfl⟩ := hu; rfl
  case arr k zs => simp only [Seg.vals, List.mem_map] at hu; obtain ⟨z, _, rfl⟩ := hu; rfl
  case ap k F n => simp only [Seg.vals, List.mem_map] at hu; obtain ⟨z, _, rfl⟩ := hu; rfl
  case vs l =>
    simp only [Seg.vals] at hu
    have := List.all_eq_true.1 h u hu
    cases u <;> first | rfl | (simp [cellB] at this)
  case v x =>
    simp only [Seg.vals, Seg.conc, List.mem_singleton] at hu
    subst hu
    simp only [Seg.ok] at h
    cases u <;> first | rfl | (simp [cellB] at h)
  all_goals
    simp only [Seg.vals, Seg.conc, List.mem_singleton] at hu
    subst hu
    rfl
theorem segsVals_cell (ρ : Nat → Loc) {l : List Seg} (h : segsOk l = true) : ∀ u ∈ segsVals ρ l, u.oneCell' = true := by
  intro u hu
  simp only [segsVals, List.mem_flatMap] at hu
  obtain ⟨s, hs, hu⟩ := hu
  exact Seg.vals_cell ρ (List.all_eq_true.1 h s hs) u hu
theorem look_mem {α : Type} : ∀ (l : List (Nat × α)) (n : Nat) (x : α), look l n = some x → (n, x) ∈ l
  | [], _, _, h => by cases h
  | (k, y) :: l, n, x, h => by
    unfold look at h
    split at h
    · rename_i hk
      have := Nat.eq_of_beq_eq_true hk
      simp only [Option.some.injEq] at h
      subst this h
      simp
    · exact List.mem_cons_of_mem _ (look_mem l n x h)

/-- A cell of a known block, behind its address. -/
theorem BlkOK.hasA {ρ : Nat → Loc} {w : World} {id : Nat} {b : Blk} (h : BlkOK ρ w id b) (hk : hasA b = true) : ∃ x, (ρ id).a = some x := by
  obtain ⟨k, ty, c⟩ := b
  unfold Am.hasA at hk
  unfold BlkOK at h
  match k, h, hk with
  | 0, h, _ =>
    obtain ⟨g, ha, _⟩ := h
    exact ⟨_, ha⟩
  | 1, _, hk => cases hk
  | k + 2, h, hk =>
    have h1 := Nat.le_of_ble_eq_true hk
    simp only at h1
    have h := BlkOK.low (ty := ty) h
    rcases h.2 with h2 | ⟨x, hx, _⟩
    · exfalso
      have := segsVals_len ρ c
      rw [h2] at this
      simp at this
      omega
    · exact ⟨x, hx⟩
theorem BlkOK.cells {ρ : Nat → Loc} {w : World} {id : Nat} {b : Blk} (h : BlkOK ρ w id b) {j : Nat} {u : Value} (hj : (segsVals ρ b.c)[j]? = some u) : ∃ x, (ρ id).a = some x ∧ w.cell? (x.add j) = some u := by
  obtain ⟨k, ty, c⟩ := b
  unfold BlkOK at h
  match k, h with
  | 0, ⟨g, ha, hg⟩ =>
    refine ⟨_, ha, ?_⟩
    rw [Addr.add_lit, cell_of_row w g (0 + j) _ ty (0, 0) hg]
    simpa using hj
  | 1, h =>
    have hjl := (List.getElem?_eq_some_iff.1 hj).1
    rcases h.2 with ⟨hv, hn⟩ | ⟨g, cap, cur, hv, hb, hg, hr⟩
    · simp only at hjl hn; omega
    · injection hv with hv _ _
      refine ⟨_, hv, ?_⟩
      have h' : w.ownsRow 0 ty 1 (.slice (some ⟨g, 0, none⟩) (segsVals ρ c).length (ρ id).cap) (segsVals ρ c).length (segsVals ρ c) := by
        have := h; rw [hv] at this; exact this
      exact h'.cells (g := g) rfl j u hj
  | k + 2, h =>
    have h := BlkOK.low (ty := ty) h
    rcases h.2 with h2 | ⟨x, hx, hc⟩
    · simp only at hj; rw [h2] at hj; cases hj
    · exact ⟨x, hx, hc j u hj⟩

end Go.Proofs.YtpefomdegbmecaaDoor.Am
/- The abstract machine: an operation's own run comes to what was reckoned. Conditions: none. -/
namespace Go.Proofs.YtpefomdegbmecaaDoor.Am
set_option linter.unusedVariables false
set_option linter.unusedSimpArgs false
open Go Go.RowKit
open Rg (gives)

def UOK (P : Program) (t : Nat) : U → Prop
  | .int k => P.underlying t = some (.int k)
  | .bool => P.underlying t = some .bool
  | .str => P.underlying t = some .string
  | .arr n e => P.underlying t = some (.array n e)
  | .st fs => ∃ fields : Array Field, P.underlying t = some (.struct fields) ∧ fs = (fields.toList.map fun f => (f.offset, f.type)) ∧ ∃ pls, fields.toList.mapM (fun f => (P.info? f.type).map fun i => (f.offset, i.size)) = some pls
  | .sl e => P.underlying t = some (.slice e)
  | .ptr e => P.underlying t = some (.pointer e)
  | .mp k e => P.underlying t = some (.map k e)
  | .oth => ∃ d, P.underlying t = some d ∧ (match d with | .struct _ | .array _ _ => false | _ => true) = true
def noLoc : Nat → Loc := fun _ => ⟨none, 0⟩
structure TyOK (P : Program) (t : Nat) (ty : Ty) : Prop where
  info : ∃ i, P.info? t = some i ∧ i.size = ty.size ∧ i.bytes = ty.bytes ∧ i.zero = some (ty.zero.conc noLoc)
  none_ : segsIn (fun _ => False) ty.zero.segs
  zok : segsOk ty.zero.segs = true
  zsz : widths ty.zero.segs = ty.size
  und : UOK P t ty.u
  eqk : ∀ k, ty.eqk = some k → P.eqGuardType P.depth t = false ∧ ∃ n e i, ty.u = .arr n e ∧ P.underlying e = some (.int k) ∧ P.plainKey e = true ∧ P.info? e = some i ∧ i.size = 1
  eqs : ty.eqs = true → P.eqGuardType P.depth t = false ∧ P.stoodInHeld t = false ∧ ((P.fieldsOf t).toList.all fun f => f.name != "_") = true
def TOK (P : Program) (T : List (Nat × Ty)) : Prop := ∀ t ty, look T t = some ty → TyOK P t ty

theorem TyOK.agg {P : Program} {t : Nat} {ty : Ty} (h : TyOK P t ty) (w : World) : (isAgg t).run P w = .ok ty.u.agg w := by
  have hu := h.und
  unfold isAgg
  rw [Sem.run_bind]
  cases hq : ty.u with
  | oth =>
    rw [hq] at hu
    obtain ⟨d, hd, hm⟩ := hu
    rw [run_underlying hd]
    cases d <;> simp_all [U.agg]
  | st fs =>
    rw [hq] at hu
    obtain ⟨d, hd, _⟩ := hu
    rw [run_underlying hd]
    rfl
  | _ =>
    rw [hq] at hu
    rw [run_underlying hu]
    rfl
theorem TyOK.zero_conc {P : Program} {t : Nat} {ty : Ty} (h : TyOK P t ty) (ρ : Nat → Loc) : ty.zero.conc ρ = ty.zero.conc noLoc := AV.conc_congr (D := fun _ => False) (fun _ hf => hf.elim) h.none_
theorem TyOK.run_zero {P : Program} {t : Nat} {ty : Ty} (h : TyOK P t ty) (ρ : Nat → Loc) (w : World) : (zeroValue t).run P w = .ok (ty.zero.conc ρ) w := by
  obtain ⟨i, hi, _, _, hz⟩ := h.info
  rw [h.zero_conc ρ]
  simp [zeroValue, typeInfo, hi, hz]
theorem TyOK.run_size {P : Program} {t : Nat} {ty : Ty} (h : TyOK P t ty) (w : World) : (sizeOf t).run P w = .ok ty.size w := by
  obtain ⟨i, hi, hs, _⟩ := h.info
  simp [sizeOf, typeInfo, hi, hs]

/-- A new block, or a block's new contents, or none any more. -/
def appl (G : Nat → Option Blk) (base : Nat) (r : Res) : Nat → Option Blk := fun id =>
  match look r.upd id with
  | some b => b
  | none => if base ≤ id ∧ id < base + r.new.length then r.new[id - base]? else G id
def Dn (D : Nat → Prop) (base n : Nat) : Nat → Prop := fun id => D id ∨ (base ≤ id ∧ id < base + n)

structure Fits [GT] (ρ : Nat → Loc) (D : Nat → Prop) (N : Nat) (M : List Nat) (G : Nat → Option Blk) (base : Nat) (r : Res) (w : World) (ρ' : Nat → Loc) (v : Value) (w' : World) : Prop where
  agree : ∀ id, D id → ρ' id = ρ id
  val : v = r.val.conc ρ'
  hr : HR ρ' (Dn D base r.new.length) N M (appl G base r) w'
  kept : Kept N M w w'
  fresh : r.upd = [] → Below w.heap.size w w' ∧ ∀ k b x, r.new[k]? = some b → (ρ' (base + k)).a = some x → w.heap.size ≤ x.block

section
variable {P : Program} {ρ : Nat → Loc} {D : Nat → Prop} {N : Nat} {M : List Nat} {G : Nat → Option Blk} {base : Nat} {w : World} {o : Oper} {a : Act}
variable [GT]

theorem HR.monoD {D' : Nat → Prop} (h : HR ρ D N M G w) (hD : ∀ id, D id → D' id) : HR ρ D' N M G w :=
  ⟨h.size, fun id b hb => let ⟨h1, h2, h3⟩ := h.blk id b hb; ⟨hD id h1, h2.mono hD, h3⟩, h.lt, h.own, h.dist, h.gw⟩

theorem fits_same (hG : HR ρ D N M G w) {r : Res} {v : Value} (hv : v = r.val.conc ρ) (hn : r.new = []) (hu : r.upd = []) : Fits ρ D N M G base r w ρ v w := by
  refine ⟨fun _ _ => rfl, hv, ?_, Kept.refl _ _ _, fun _ => ⟨Below.refl _ _, fun k b x hk => by rw [hn] at hk; cases hk⟩⟩
  have : appl G base r = G := by
    funext id
    unfold appl
    rw [hu, hn]
    simp only [look, List.length_nil]
    rw [if_neg (by omega)]
  rw [this]
  exact hG.monoD fun id h => .inl h

omit [GT] in
def up (ρ : Nat → Loc) (id : Nat) (l : Loc) : Nat → Loc := fun i => if i = id then l else ρ i
omit [GT] in
theorem up_self (ρ : Nat → Loc) (id : Nat) (l : Loc) : up ρ id l id = l := if_pos rfl
omit [GT] in
theorem up_agree {ρ : Nat → Loc} {id : Nat} {l : Loc} (hf : ¬ D id) : ∀ i, D i → up ρ id l i = ρ i := fun i hi => by
  unfold up
  rw [if_neg]
  intro e
  exact hf (e ▸ hi)

/-- A new block of one's own. -/
theorem fits_new (hG : HR ρ D N M G w) {t : TypeId} {c : List Seg} (hf : ¬ D base) (hin : segsIn D c) {r : Res} {v : Value} (hn : r.new = [⟨0, t, c⟩]) (hu : r.upd = [])
    (hv : v = r.val.conc (up ρ base ⟨some ⟨w.heap.size, 0, none⟩, 0⟩)) : Fits ρ D N M G base r w (up ρ base ⟨some ⟨w.heap.size, 0, none⟩, 0⟩) v (w.alloc (.cells (segsVals ρ c).toArray t)) := by
  have hag : ∀ i, D i → up ρ base ⟨some ⟨w.heap.size, 0, none⟩, 0⟩ i = ρ i := up_agree hf
  refine ⟨hag, hv, ?_, Kept.of_below ((Below.refl _ _).alloc hG.size _), fun _ => ⟨(Below.refl _ _).alloc (Nat.le_refl _) _, fun k b x hk hx => ?_⟩⟩
  rotate_left
  · rw [hn] at hk
    cases k with
    | zero =>
      simp only [Nat.add_zero, up_self] at hx
      injection hx with hx
      subst hx
      exact Nat.le_refl _
    | succ k => simp at hk
  have ha : ∀ id, appl G base r id = if id = base then some ⟨0, t, c⟩ else G id := fun id => by
    unfold appl
    rw [hu, hn]
    simp only [look, List.length_cons, List.length_nil]
    by_cases h : id = base
    · subst h; simp
    · rw [if_neg (by omega), if_neg h]
  have hgn : (w.alloc (.cells (segsVals ρ c).toArray t)).heap[w.heap.size]? = some (.cells (segsVals ρ c).toArray t (0, 0)) := heap_new _ _
  refine hG.step (U := fun id => id = base) hag (fun id h => .inl h) (Kept.of_below ((Below.refl _ _).alloc hG.size _)) (fun id b hb hU => ?_) (fun id b x hb hU hx => ?_) (fun id b hb hU => ?_) (fun id b x hb hU hx => ?_) (fun id b x hb hU hk hx => ?_) (fun i j bi bj x y hi hj hij hU hk hx hy => ?_)
  · rw [ha, if_neg hU] at hb; exact hb
  · rw [ha, if_neg hU] at hb
    exact Below.heap_alloc _ _ _ (hG.lt id b x hb hx)
  · subst hU
    rw [ha, if_pos rfl] at hb
    injection hb with hb
    subst hb
    refine ⟨.inr ⟨Nat.le_refl _, by rw [hn]; simp⟩, hin.mono fun i h => .inl h, ?_⟩
    refine ⟨w.heap.size, by rw [up_self], ?_⟩
    rw [segsVals_congr hag hin]
    exact hgn
  · subst hU
    rw [up_self] at hx
    injection hx with hx
    subst hx
    simp
  · subst hU
    rw [up_self] at hx
    injection hx with hx
    subst hx
    exact .inl hG.size
  · rw [ha] at hi hj
    by_cases h1 : i = base
    · subst h1
      rw [if_neg fun e => hij e.symm] at hj
      rw [up_self] at hx
      injection hx with hx
      subst hx
      have hj2 := (hG.blk j bj hj).1
      rw [hag j hj2] at hy
      have := hG.lt j bj y hj hy
      simp only; omega
    · have h2 : j = base := hU.resolve_left h1
      subst h2
      rw [if_neg h1] at hi
      rw [up_self] at hy
      injection hy with hy
      subst hy
      have hi2 := (hG.blk i bi hi).1
      rw [hag i hi2] at hx
      have := hG.lt i bi x hi hx
      simp only; omega

/-- New contents of a block of one's own, or of a row. -/
theorem fits_put2 (hG : HR ρ D N M G w) {id : Nat} {b b2 : Blk} (hb : G id = some b) (hk : b.k < 2) {r : Res} {v : Value} (hn : r.new = []) (hu : r.upd = [(id, some b2)]) (hv : v = r.val.conc ρ)
    {g : Nat} (hg : (ρ id).a = some ⟨g, 0, none⟩) {cs : Array Value} (hin : segsIn D b2.c) (hok : BlkOK ρ (w.setRow g cs) id b2) : Fits ρ D N M G base r w ρ v (w.setRow g cs) := by
  have hgo := hG.own id b _ hb hk hg
  simp only at hgo
  have hw : ∀ k, k ≠ g → (w.setRow g cs).heap[k]? = w.heap[k]? := fun k hk => setRow_other w g k _ hk
  have hsz : (w.setRow g cs).heap.size = w.heap.size := by simp [World.setRow]
  have hkp : Kept N M w (w.setRow g cs) := ⟨rfl, rfl, rfl, Nat.le_of_eq hsz.symm, fun k hk hm => hw k fun e => by
    subst e
    rcases hgo with h | h
    · omega
    · exact hm h⟩
  refine ⟨fun _ _ => rfl, hv, ?_, hkp, fun hnil => by rw [hu] at hnil; cases hnil⟩
  · have ha : ∀ i, appl G base r i = if i = id then some b2 else G i := fun i => by
      unfold appl
      rw [hu, hn]
      simp only [look, List.length_nil]
      by_cases h : i = id
      · subst h; simp
      · have : Nat.beq id i = false := by
          cases hq : Nat.beq id i
          · rfl
          · exact absurd (Nat.eq_of_beq_eq_true hq).symm h
        rw [this, if_neg h]
        simp only
        rw [if_neg (by omega)]
    refine hG.step (U := fun i => i = id) (fun _ _ => rfl) (fun i h => .inl h) hkp (fun i b' hb' hU => ?_) (fun i b' x hb' hU hx => ?_) (fun i b' hb' hU => ?_) (fun i b' x hb' hU hx => ?_) (fun i b' x hb' hU hk hx => ?_) (fun i j bi bj x y hi hj hij hU hk hx hy => ?_)
    · rw [ha, if_neg hU] at hb'; exact hb'
    · rw [ha, if_neg hU] at hb'
      refine hw _ fun e => ?_
      have := hG.dist id i b b' _ x hb hb' (fun e => hU e.symm) hk hg hx
      exact this e.symm
    · subst hU
      rw [ha, if_pos rfl] at hb'
      injection hb' with hb'
      subst hb'
      exact ⟨.inl (hG.blk i b hb).1, hin.mono fun i h => .inl h, hok⟩
    · subst hU
      rw [hsz]
      exact hG.lt i b x hb hx
    · subst hU
      exact hG.own i b x hb ‹b.k < 2› hx
    · rw [ha] at hi hj
      by_cases h1 : i = id
      · subst h1
        rw [if_neg fun e => hij e.symm] at hj
        exact hG.dist i j b bj x y hb hj hij ‹b.k < 2› hx hy
      · have h2 : j = id := hU.resolve_left h1
        subst h2
        rw [if_neg h1] at hi
        exact hG.dist i j bi b x y hi hb hij hk hx hy
theorem fits_put (hG : HR ρ D N M G w) {id : Nat} {b : Blk} (hb : G id = some b) (hk : b.k = 0) {c : List Seg} (hin : segsIn D c) {r : Res} {v : Value} (hn : r.new = []) (hu : r.upd = [(id, some ⟨0, b.ty, c⟩)]) (hv : v = r.val.conc ρ)
    {g : Nat} (hg : (ρ id).a = some ⟨g, 0, none⟩) (hlen : w.heap[g]? = some (.cells (segsVals ρ b.c).toArray b.ty (0, 0))) : Fits ρ D N M G base r w ρ v (w.setRow g (segsVals ρ c).toArray) :=
  fits_put2 hG hb (by omega) hn hu hv hg hin ⟨g, hg, setRow_heap w g _ _ _ _ hlen⟩

/-- One new block behind a call that leaves old memory alone. -/
theorem fits_fresh {w w' : World} (hG : HR ρ D N M G w) (hb : Below w.heap.size w w') {b : Blk} {l : Loc} {r : Res} {v : Value} (hf : ¬ D base) (hn : r.new = [b]) (hu : r.upd = []) (hin : segsIn D b.c) (hok : BlkOK (up ρ base l) w' base b) (hfr : ∀ x, l.a = some x → w.heap.size ≤ x.block ∧ x.block < w'.heap.size) (hv : v = r.val.conc (up ρ base l)) : Fits ρ D N M G base r w (up ρ base l) v w' := by
  have hag : ∀ i, D i → up ρ base l i = ρ i := up_agree hf
  refine ⟨hag, hv, ?_, Kept.of_below (hb.mono hG.size), fun _ => ⟨hb, fun k b' x hk hx => ?_⟩⟩
  · have ha : ∀ id, appl G base r id = if id = base then some b else G id := fun id => by
      unfold appl
      rw [hu, hn]
      simp only [look, List.length_cons, List.length_nil]
      by_cases h : id = base
      · subst h; simp
      · rw [if_neg (by omega), if_neg h]
    refine hG.step (U := fun id => id = base) hag (fun id h => .inl h) (Kept.of_below (hb.mono hG.size)) (fun id b' hb' hU => ?_) (fun id b' x hb' hU hx => ?_) (fun id b' hb' hU => ?_) (fun id b' x hb' hU hx => ?_) (fun id b' x hb' hU hk hx => ?_) (fun i j bi bj x y hi hj hij hU hk hx hy => ?_)
    · rw [ha, if_neg hU] at hb'; exact hb'
    · rw [ha, if_neg hU] at hb'
      exact hb.block _ (hG.lt id b' x hb' hx)
    · subst hU
      rw [ha, if_pos rfl] at hb'
      injection hb' with hb'
      subst hb'
      exact ⟨.inr ⟨Nat.le_refl _, by rw [hn]; simp⟩, hin.mono fun i h => .inl h, hok⟩
    · subst hU
      rw [up_self] at hx
      exact (hfr x hx).2
    · subst hU
      rw [up_self] at hx
      exact .inl (Nat.le_trans hG.size (hfr x hx).1)
    · rw [ha] at hi hj
      by_cases h1 : i = base
      · subst h1
        rw [if_neg fun e => hij e.symm] at hj
        rw [up_self] at hx
        have h3 := (hfr x hx).1
        rw [hag j (hG.blk j bj hj).1] at hy
        have := hG.lt j bj y hj hy
        omega
      · have h2 : j = base := hU.resolve_left h1
        subst h2
        rw [if_neg h1] at hi
        rw [up_self] at hy
        have h3 := (hfr y hy).1
        rw [hag i (hG.blk i bi hi).1] at hx
        have := hG.lt i bi x hi hx
        omega
  · rw [hn] at hk
    cases k with
    | zero =>
      simp only [Nat.add_zero, up_self] at hx
      exact (hfr x hx).1
    | succ k => simp at hk

omit [GT] in
theorem gives_of {s : Sem Value} {v : Value} {w' : World} {R : Value → World → Prop} (he : execOp a.eval o = s.bind fun x => .pure (.value x)) (h : s.run P w = .ok v w') (hR : R v w') : gives P o a w R := by
  refine Rg.gives_value (v := v) (w' := w') ?_ hR
  rw [he]
  have : (s >>= fun x => (Sem.pure (Next.value x) : Sem Next)).run P w = .ok (.value v) w' := by
    rw [Sem.run_bind, h]
    rfl
  exact this

end
end Go.Proofs.YtpefomdegbmecaaDoor.Am
/- The abstract machine: operation by operation, first half. Conditions: none. -/
namespace Go.Proofs.YtpefomdegbmecaaDoor.Am
set_option linter.unusedVariables false
set_option linter.unusedSimpArgs false
open Go Go.RowKit
open Rg (gives)

section
variable {P : Program} {T : List (Nat × Ty)} {ρ : Nat → Loc} {D : Nat → Prop} {N : Nat} {M : List Nat} {G : Nat → Option Blk} {base : Nat} {w : World} {o : Oper} {a : Act} {ev : Operand → Option SV}
variable [GT]

def Sn (P : Program) (o : Oper) (a : Act) (w : World) (ρ : Nat → Loc) (D : Nat → Prop) (N : Nat) (M : List Nat) (G : Nat → Option Blk) (base : Nat) (r : Res) : Prop :=
  gives P o a w fun v w' => ∃ ρ', Fits ρ D N M G base r w ρ' v w'
omit [GT] in
def EvOK (a : Act) (ρ : Nat → Loc) (D : Nat → Prop) (ev : Operand → Option SV) : Prop := ∀ x s, ev x = some s → a.eval x = s.conc ρ ∧ s.In D

theorem sn_same (hG : HR ρ D N M G w) {s : Sem Value} {r : Res} (he : execOp a.eval o = s.bind fun x => .pure (.value x)) (h : s.run P w = .ok (r.val.conc ρ) w) (hn : r.new = []) (hu : r.upd = []) : Sn P o a w ρ D N M G base r :=
  gives_of he h ⟨ρ, fits_same hG rfl hn hu⟩
theorem sn_pure (hG : HR ρ D N M G w) {r : Res} (he : execOp a.eval o = .pure (.value (r.val.conc ρ))) (hn : r.new = []) (hu : r.upd = []) : Sn P o a w ρ D N M G base r :=
  Rg.gives_value (v := r.val.conc ρ) (w' := w) (by rw [he]; rfl) ⟨ρ, fits_same hG rfl hn hu⟩

theorem s_move (hG : HR ρ D N M G w) (hev : EvOK a ρ D ev) {x : Operand} (hop : o.op = .move x) {s : SV} (hs : ev x = some s) : Sn P o a w ρ D N M G base { val := s } :=
  sn_pure hG (by unfold execOp; rw [hop]; simp only; rw [(hev x s hs).1]; rfl) rfl rfl
theorem s_assign (hG : HR ρ D N M G w) (hev : EvOK a ρ D ev) {x : Operand} (hop : o.op = .assign x) {s : SV} (hs : ev x = some s) : Sn P o a w ρ D N M G base { val := s } :=
  sn_pure hG (by unfold execOp; rw [hop]; simp only; rw [(hev x s hs).1]; rfl) rfl rfl
theorem s_pick (hG : HR ρ D N M G w) (hev : EvOK a ρ D ev) {c x y : Operand} (hop : o.op = .pick c x y) {t : Bool} (hc : ev c = some (ofV (.bool t))) {s : SV} (hs : ev (if t then x else y) = some s) : Sn P o a w ρ D N M G base { val := s } := by
  refine Rg.gives_value (v := s.conc ρ) (w' := w) ?_ ⟨ρ, fits_same hG rfl rfl rfl⟩
  unfold execOp
  rw [hop]
  simp only
  rw [(hev c _ hc).1, ← (hev _ s hs).1]
  cases t <;> simp [asBool, ofV, SV.conc, AV.conc, Seg.conc]
theorem s_alloc (hT : TOK P T) (hG : HR ρ D N M G w) (hf : ¬ D base) {t : TypeId} (hop : o.op = .alloc t) {ty : Ty} (ht : look T t = some ty) : Sn P o a w ρ D N M G base { val := .av (.one (.p base 0)), new := [⟨0, t, ty.zero.segs⟩] } := by
  have hty := hT t ty ht
  refine gives_of (s := Instr.alloc t true (.tuple #[])) (v := .pointer (some ⟨w.heap.size, 0, none⟩)) (w' := w.alloc (.cells (segsVals ρ ty.zero.segs).toArray t)) (by unfold execOp; rw [hop]; rfl) ?_ ⟨_, fits_new hG hf (hty.none_.mono fun _ h => h.elim) rfl rfl ?_⟩
  · simp [Instr.alloc, hty.run_zero ρ, newVar, newRow, AV.cells ρ hty.zok, newObj]
    rfl
  · simp [SV.conc, AV.conc, Seg.conc, up_self, Addr.add_lit]
theorem s_box (hG : HR ρ D N M G w) (hev : EvOK a ρ D ev) (hf : ¬ D base) {t : TypeId} {x : Operand} (hop : o.op = .box t x) {b : AV} (hx : ev x = some (.av b)) (hok : segsOk b.segs = true) : Sn P o a w ρ D N M G base { val := .av (.one (.p base 0)), new := [⟨0, t, b.segs⟩] } := by
  obtain ⟨hv, hin⟩ := hev x _ hx
  refine gives_of (s := Instr.box t (a.eval x)) (v := .pointer (some ⟨w.heap.size, 0, none⟩)) (w' := w.alloc (.cells (segsVals ρ b.segs).toArray t)) (by unfold execOp; rw [hop]; rfl) ?_ ⟨_, fits_new hG hf hin rfl rfl ?_⟩
  · rw [hv]
    simp [Instr.box, newVar, newRow, SV.conc, AV.cells ρ hok, newObj]
    rfl
  · simp [SV.conc, AV.conc, Seg.conc, up_self, Addr.add_lit]

/-! build -/
omit [GT] in
theorem foldl_set (news : List Value) : ∀ (k off : Nat) (cs : Array Value), off + k + news.length ≤ cs.size → (news.zipIdx k).foldl (fun cs (p : Value × Nat) => cs.setIfInBounds (off + p.2) p.1) cs = (cs.toList.take (off + k) ++ news ++ cs.toList.drop (off + k + news.length)).toArray := by
  induction news with
  | nil => intro k off cs _; simp
  | cons v l ih =>
    intro k off cs h
    simp only [List.length_cons] at h
    rw [List.zipIdx_cons, List.foldl_cons]
    simp only
    rw [ih (k + 1) off _ (by simp; omega)]
    apply congrArg List.toArray
    apply List.ext_getElem?
    intro i
    simp only [Array.toList_setIfInBounds, List.getElem?_append, List.length_append, List.length_take, List.length_set, Array.length_toList, List.getElem?_take, List.getElem?_drop, List.getElem?_set, List.length_cons]
    have e1 : min (off + (k + 1)) cs.size = off + k + 1 := by omega
    have e2 : min (off + k) cs.size = off + k := by omega
    rw [e1, e2]
    rcases Nat.lt_trichotomy i (off + k) with h1 | h1 | h1
    · rw [if_pos (by omega), if_pos (by omega), if_pos (by omega), if_neg (by omega), if_pos (by omega), if_pos (by omega), if_pos (by omega)]
    · subst h1
      rw [if_pos (by omega), if_pos (by omega), if_pos (by omega), if_pos rfl, if_pos (by omega), if_pos (by omega), if_neg (by omega)]
      simp
    · by_cases h2 : i < off + k + 1 + l.length
      · rw [if_pos (by omega), if_neg (by omega), if_pos (by omega), if_neg (by omega)]
        obtain ⟨d, rfl⟩ : ∃ d, i = off + k + 1 + d := ⟨i - (off + k + 1), by omega⟩
        rw [show off + k + 1 + d - (off + k) = d + 1 by omega, List.getElem?_cons_succ]
        congr 1; omega
      · rw [if_neg (by omega), if_neg (by omega), if_neg (by omega)]
        congr 1; omega
omit [GT] in
theorem fill_at {pl : Nat → Option (Nat × Nat)} {cs : Array Value} {i off n : Nat} {v : Value} {rest : List (Nat × Value)} (hp : pl i = some (off, n)) (hn : v.cells.size = n) (hl : off + n ≤ cs.size) :
    Instr.fill pl cs ((i, v) :: rest) = Instr.fill pl (cs.toList.take off ++ v.cells.toList ++ cs.toList.drop (off + n)).toArray rest := by
  have := foldl_set v.cells.toList 0 off cs (by simp; omega)
  simp only [Nat.add_zero, Array.length_toList, hn] at this
  conv => lhs; unfold Instr.fill
  simp only [hp]
  rw [if_neg (by simp [hn]; omega)]
  congr 1
  rw [← this]
  simp [Array.foldl_toList, ← Array.toList_zipIdx]
theorem fillIn_spec (hev : EvOK a ρ D ev) {pl pl' : Nat → Option (Nat × Nat)} (hpl : ∀ i x, pl i = some x → pl' i = some x) : ∀ (l : List (Nat × Operand)) (c r : List Seg), fillIn pl ev c l = some r →
    Instr.fill pl' (segsVals ρ c).toArray (l.map fun x => (x.1, a.eval x.2)) = some (segsVals ρ r).toArray
  | [], c, r, h => by
    simp only [fillIn, Option.some.injEq] at h
    subst h
    rfl
  | (i, x) :: l, c, r, h => by
    unfold fillIn at h
    split at h
    · rename_i off n b hp hx
      split at h
      · rename_i hw
        simp only [Bool.and_eq_true] at hw
        split at h
        · rename_i c' hput
          obtain ⟨hv, hin⟩ := hev x _ hx
          obtain ⟨e1, e2⟩ := putSegs_spec ρ hput
          have hwn := Nat.eq_of_beq_eq_true hw.1
          have ih := fillIn_spec hev hpl l c' r h
          rw [List.map_cons]
          have hcells := AV.cells ρ hw.2
          rw [fill_at (hpl i _ hp) (by rw [hv]; simp only [SV.conc]; rw [hcells]; simp [segsVals_len, hwn]) (by rw [segsVals_len ρ b.segs, hwn] at e2; simpa using e2)]
          have : (((segsVals ρ c).toArray.toList.take off ++ (a.eval x).cells.toList ++ (segsVals ρ c).toArray.toList.drop (off + n)).toArray) = (segsVals ρ c').toArray := by
            rw [hv]
            simp only [SV.conc]
            rw [hcells, e1, segsVals_len ρ b.segs, hwn]
          rw [this]
          exact ih
        · cases h
      · cases h
    · cases h

end
end Go.Proofs.YtpefomdegbmecaaDoor.Am
/- The abstract machine: operation by operation: build, load, store, arithmetic. Conditions: none. -/
namespace Go.Proofs.YtpefomdegbmecaaDoor.Am
set_option linter.unusedVariables false
set_option linter.unusedSimpArgs false
open Go Go.RowKit
open Rg (gives)

theorem mapM_at {α β : Type} {f : α → Option β} : ∀ {l : List α} {r : List β}, l.mapM f = some r → ∀ {i : Nat} {x : α}, l[i]? = some x → ∃ y, f x = some y ∧ r[i]? = some y
  | [], _, _, i, x, hx => by cases hx
  | a :: l, r, h, i, x, hx => by
    rw [List.mapM_cons] at h
    simp only [Option.bind_eq_bind, Option.pure_def] at h
    cases ha : f a with
    | none => simp [ha] at h
    | some y =>
      cases hr : l.mapM f with
      | none => simp [ha, hr] at h
      | some r' =>
        simp only [ha, hr, Option.bind_some, Option.some.injEq] at h
        subst h
        cases i with
        | zero =>
          simp only [List.getElem?_cons_zero, Option.some.injEq] at hx
          subst hx
          exact ⟨y, ha, rfl⟩
        | succ i =>
          simp only [List.getElem?_cons_succ] at hx ⊢
          exact mapM_at hr hx

section
variable {P : Program} {T : List (Nat × Ty)} {ρ : Nat → Loc} {D : Nat → Prop} {N : Nat} {M : List Nat} {G : Nat → Option Blk} {base : Nat} {w : World} {o : Oper} {a : Act} {ev : Operand → Option SV}
variable [GT]

omit [GT] in
theorem place_arr (hT : TOK P T) {n : Nat} {e : TypeId} {te : Ty} (he : look T e = some te) {i : Nat} {x : Nat × Nat} (h : place T (.arr n e) i = some x) : some (i * te.size, te.size) = some x := by
  simp only [place, he] at h
  exact h
omit [GT] in
theorem place_st (hT : TOK P T) {fs : List (Nat × TypeId)} {fields : Array Field} (hfs : fs = fields.toList.map fun f => (f.offset, f.type)) {pls : List (Nat × Nat)} (hp : fields.toList.mapM (fun f => (P.info? f.type).map fun i => (f.offset, i.size)) = some pls) {i : Nat} {x : Nat × Nat} (h : place T (.st fs) i = some x) : pls.toArray[i]? = some x := by
  simp only [place] at h
  split at h
  · rename_i off t hft
    rw [hfs, List.getElem?_map, Option.map_eq_some_iff] at hft
    obtain ⟨f, hf, hft⟩ := hft
    simp only [Prod.mk.injEq] at hft
    obtain ⟨rfl, rfl⟩ := hft
    split at h
    · rename_i ty hty
      simp only [Option.some.injEq] at h
      subst h
      obtain ⟨y, hy, hr⟩ := mapM_at hp hf
      obtain ⟨inf, hi, hs, _⟩ := (hT _ _ hty).info
      rw [hi] at hy
      simp only [Option.map_some, Option.some.injEq] at hy
      subst hy
      simpa [hs] using hr
    · cases h
  · cases h

omit [GT] in
theorem parts_list (parts : Array (Nat × Operand)) : (parts.map fun x => (x.1, a.eval x.2)).toList = parts.toList.map fun x => (x.1, a.eval x.2) := by simp
theorem s_build_arr (hT : TOK P T) (hG : HR ρ D N M G w) (hev : EvOK a ρ D ev) {t : TypeId} {parts : Array (Nat × Operand)} (hop : o.op = .build t parts) {ty : Ty} (ht : look T t = some ty) {n : Nat} {e : TypeId} (hu : ty.u = .arr n e) {te : Ty} (he : look T e = some te) {l : List Seg} (hl : fillIn (place T (.arr n e)) ev ty.zero.segs parts.toList = some l) :
    Sn P o a w ρ D N M G base { val := .av (normNum l) } := by
  have hty := hT t ty ht
  have hun : P.underlying t = some (.array n e) := by have := hty.und; rw [hu] at this; exact this
  refine sn_same hG (s := Instr.build t (parts.map fun x => (x.1, a.eval x.2))) (by unfold execOp; rw [hop]; rfl) ?_ rfl rfl
  simp only [SV.conc]
  rw [normNum_conc]
  have hf := fillIn_spec hev (pl' := fun i => some (i * te.size, te.size)) (fun i x hx => place_arr hT he hx) _ _ _ hl
  have hsz := (hT e te he).run_size (w := w)
  simp only [Instr.build, Sem.run_bind, hty.run_zero ρ, run_underlying hun, Result.andThen_ok, AV.cells ρ hty.zok, hsz, parts_list, hf, Sem.run_pure]
theorem s_build_st (hT : TOK P T) (hG : HR ρ D N M G w) (hev : EvOK a ρ D ev) {t : TypeId} {parts : Array (Nat × Operand)} (hop : o.op = .build t parts) {ty : Ty} (ht : look T t = some ty) {fs : List (Nat × TypeId)} (hu : ty.u = .st fs) {l : List Seg} (hl : fillIn (place T (.st fs)) ev ty.zero.segs parts.toList = some l) :
    Sn P o a w ρ D N M G base { val := .av (mkAgg l) } := by
  have hty := hT t ty ht
  have hun : UOK P t (.st fs) := by have := hty.und; rw [hu] at this; exact this
  obtain ⟨fields, hd, hfs, pls, hpls⟩ := hun
  refine sn_same hG (s := Instr.build t (parts.map fun x => (x.1, a.eval x.2))) (by unfold execOp; rw [hop]; rfl) ?_ rfl rfl
  simp only [SV.conc]
  rw [mkAgg_conc]
  have hf := fillIn_spec hev (pl' := (pls.toArray[·]?)) (fun i x hx => place_st hT hfs hpls hx) _ _ _ hl
  have hrp := run_places (P := P) w fields.toList pls hpls
  simp [Instr.build, hty.run_zero ρ, run_underlying hd, AV.cells ρ hty.zok, Array.mapM_eq_mapM_toList, hrp, parts_list]
  simp at hf
  simp [hf]

end
end Go.Proofs.YtpefomdegbmecaaDoor.Am
/- The abstract machine: operation by operation: slices made, loads, stores, arithmetic. Conditions: none. -/
namespace Go.Proofs.YtpefomdegbmecaaDoor.Am
set_option linter.unusedVariables false
set_option linter.unusedSimpArgs false
open Go Go.RowKit
open Rg (gives)

section
variable {P : Program} {T : List (Nat × Ty)} {ρ : Nat → Loc} {D : Nat → Prop} {N : Nat} {M : List Nat} {G : Nat → Option Blk} {base : Nat} {w : World} {o : Oper} {a : Act} {ev : Operand → Option SV}
variable [GT]

omit [GT] in
theorem times_vals (ρ : Nat → Loc) (l : List Seg) : ∀ (n : Nat), segsVals ρ (times n l) = (List.replicate n (segsVals ρ l)).flatten
  | 0 => rfl
  | n + 1 => by
    unfold times
    rw [segsVals_append, times_vals ρ l n, List.replicate_succ, List.flatten_cons]
omit [GT] in
theorem flatten_at {α : Type} (l : List α) (n : Nat) : ∀ (i : Nat), i < n * l.length → ((List.replicate n l).flatten)[i]? = l[i % l.length]? := by
  induction n with
  | zero => intro i h; simp at h
  | succ n ih =>
    intro i h
    rw [List.replicate_succ, List.flatten_cons]
    by_cases hi : i < l.length
    · rw [List.getElem?_append_left hi, Nat.mod_eq_of_lt hi]
    · rw [List.getElem?_append_right (by omega), ih _ (by rw [Nat.add_mul] at h; omega)]
      congr 1
      exact (Nat.mod_eq_sub_mod (by omega)).symm
omit [GT] in
theorem range_zero (z : List Value) (n : Nat) : ((Array.range (n * z.length)).map (z.toArray[· % z.toArray.size]!)) = ((List.replicate n z).flatten).toArray := by
  apply Array.ext
  · simp
  · intro i h1 h2
    have hi : i < n * z.length := by simpa using h1
    have hz : 0 < z.length := by
      rcases Nat.eq_zero_or_pos z.length with h | h
      · rw [h] at hi; simp at hi
      · exact h
    have hm : i % z.length < z.length := Nat.mod_lt _ hz
    have e := flatten_at z n i hi
    simp at h2
    rw [List.getElem?_eq_getElem (by simpa using h2), List.getElem?_eq_getElem hm] at e
    simp only [Option.some.injEq] at e
    simp [e, hm]
theorem s_buildSlice (hT : TOK P T) (hG : HR ρ D N M G w) (hev : EvOK a ρ D ev) (hf : ¬ D base) {t : TypeId} {len : Nat} {parts : Array (Nat × Operand)} (hop : o.op = .buildSlice t len parts) {ty : Ty} (ht : look T t = some ty) {e : TypeId} (hu : ty.u = .sl e) {te : Ty} (he : look T e = some te) (hlen : len * te.size ≤ 16777216) {l : List Seg} (hl : fillIn (place T (.arr len e)) ev (times len te.zero.segs) parts.toList = some l) (hin : segsIn D l) :
    Sn P o a w ρ D N M G base { val := .av (.one (.s base 0 len len)), new := [⟨0, e, l⟩] } := by
  have hty := hT t ty ht
  have hte := hT e te he
  have hun : P.underlying t = some (.slice e) := by have := hty.und; rw [hu] at this; exact this
  refine gives_of (s := Instr.buildSlice t len (parts.map fun x => (x.1, a.eval x.2))) (v := .slice (some ⟨w.heap.size, 0, none⟩) len len) (w' := w.alloc (.cells (segsVals ρ l).toArray e)) (by unfold execOp; rw [hop]; rfl) ?_ ⟨_, fits_new hG hf hin rfl rfl ?_⟩
  · have hf := fillIn_spec hev (pl' := fun i => some (i * te.size, te.size)) (fun i x hx => place_arr hT he hx) _ _ _ hl
    have hsz := hte.run_size (w := w)
    have hzr := hte.run_zero ρ (w := w)
    have hc := AV.cells ρ hte.zok
    have hw : (segsVals ρ te.zero.segs).length = te.size := by rw [segsVals_len]; exact hte.zsz
    have hrz := range_zero (segsVals ρ te.zero.segs) len
    rw [hw, ← times_vals] at hrz
    have hbig : ¬ len * te.size > 2 ^ 24 := by omega
    by_cases h0 : len * te.size = 0
    · have he0 : segsVals ρ (times len te.zero.segs) = [] := by
        rw [← List.length_eq_zero_iff, segsVals_len]
        have : ∀ n, widths (times n te.zero.segs) = n * te.size := by
          intro n
          rw [← segsVals_len ρ, times_vals, List.length_flatten]
          simp [hw]
        rw [this]; exact h0
      rw [he0] at hf
      have hr0 : ∀ f : Nat → Value, (Array.range 0).map f = #[] := fun _ => by simp
      have hf' : Instr.fill (fun i => some (i * te.size, te.size)) #[] (List.map (fun x => (x.1, a.eval x.2)) parts.toList) = some (segsVals ρ l).toArray := hf
      simp only [Instr.buildSlice, Sem.run_bind, run_underlying hun, Result.andThen_ok, hsz, if_neg hbig, h0, if_pos rfl, Sem.run_pure, hr0, parts_list]
      rw [hf']
      simp [newRow, newObj]
      rfl
    · simp only [Instr.buildSlice, Sem.run_bind, run_underlying hun, Result.andThen_ok, hsz, if_neg hbig, if_neg h0, hzr, Sem.run_pure, hc, hrz, parts_list, hf]
      simp [newRow, newObj]
      rfl
  · simp [SV.conc, AV.conc, Seg.conc, up_self, Addr.add_lit]

omit [GT] in
theorem conc_p (ρ : Nat → Loc) (id off : Nat) : SV.conc ρ (.av (.one (.p id off))) = .pointer ((ρ id).a.map (·.add off)) := rfl
omit [GT] in
theorem conc_av (ρ : Nat → Loc) (b : AV) : SV.conc ρ (.av b) = b.conc ρ := rfl
theorem cells_at {id off : Nat} {b : Blk} {l : List Value} (hG : HR ρ D N M G w) (hb : G id = some b) (hl : ∀ j u, l[j]? = some u → (segsVals ρ b.c)[off + j]? = some u) (hn : 0 < l.length) : ∃ x : Addr, (ρ id).a = some x ∧ ∀ j u, l[j]? = some u → w.cell? ((x.add off).add j) = some u := by
  have hbk := (hG.blk id b hb).2.2
  obtain ⟨x, hx, _⟩ := hbk.cells (hl 0 l[0] (by simp [hn]))
  refine ⟨x, hx, fun j u hj => ?_⟩
  obtain ⟨y, hy, hc⟩ := hbk.cells (hl j u hj)
  rw [hx] at hy
  injection hy with hy
  subst hy
  rw [← hc]
  congr 1
  by_cases h1 : off = 0
  · subst h1; simp [Addr.add]
  · by_cases h2 : j = 0
    · subst h2; simp [Addr.add, h1]
    · simp [Addr.add, h1, h2, Nat.add_assoc]

theorem s_load_agg (hT : TOK P T) (hG : HR ρ D N M G w) (hev : EvOK a ρ D ev) {t : TypeId} {x : Operand} (hop : o.op = .load t x) {ty : Ty} (ht : look T t = some ty) (hagg : ty.u.agg = true) {id off : Nat} (hx : ev x = some (.av (.one (.p id off)))) {b : Blk} (hb : G id = some b) {l : List Seg} (hl : getSegs b.c off ty.size = some l) (hpos : 0 < ty.size) {q : Asm} :
    Sn P o a w ρ D N M G base { val := .av (mkAgg l), asm := q } := by
  have hty := hT t ty ht
  obtain ⟨hv, _⟩ := hev x _ hx
  obtain ⟨_, hlen⟩ := getSegs_spec ρ hl
  obtain ⟨y, hy, hc⟩ := cells_at (l := segsVals ρ l) hG hb (getSegs_at ρ hl) (by omega)
  refine sn_same hG (s := Instr.loadAt t (a.eval x)) (by unfold execOp; rw [hop]; rfl) ?_ rfl rfl
  rw [hv, conc_p, hy, conc_av, mkAgg_conc]
  simp only [Option.map_some]
  have hlc := run_loadCells_list (P := P) w (y.add off) (segsVals ρ l) hc
  rw [hlen] at hlc
  simp only [Instr.loadAt, Instr.sureAddr, loadVar, Sem.run_bind, Sem.run_pure, Result.andThen_ok, hty.agg, hagg, if_true, hty.run_size, hlc]
theorem s_load_one (hT : TOK P T) (hG : HR ρ D N M G w) (hev : EvOK a ρ D ev) {t : TypeId} {x : Operand} (hop : o.op = .load t x) {ty : Ty} (ht : look T t = some ty) (hagg : ty.u.agg = false) {id off : Nat} (hx : ev x = some (.av (.one (.p id off)))) {b : Blk} (hb : G id = some b) {s : SV} (hl : (segsVals ρ b.c)[off]? = some (s.conc ρ)) {p : Asm} :
    Sn P o a w ρ D N M G base { val := s, asm := p } := by
  have hty := hT t ty ht
  obtain ⟨hv, _⟩ := hev x _ hx
  obtain ⟨y, hy, hc⟩ := cells_at (l := [s.conc ρ]) (off := off) hG hb (fun j u hj => by
    cases j with
    | zero => simp only [List.getElem?_cons_zero, Option.some.injEq] at hj; subst hj; exact hl
    | succ j => simp at hj) (by simp)
  refine sn_same hG (s := Instr.loadAt t (a.eval x)) (by unfold execOp; rw [hop]; rfl) ?_ rfl rfl
  rw [hv, conc_p, hy]
  simp only [Option.map_some]
  have hc0 := hc 0 _ rfl
  have : (y.add off).add 0 = y.add off := by simp [Addr.add]
  rw [this] at hc0
  simp [Instr.loadAt, Instr.sureAddr, loadVar, hty.agg, hagg, hc0]
omit [GT] in
theorem storeCells_own {g off : Nat} {cur news : List Value} {t : TypeId} (hg : w.heap[g]? = some (.cells cur.toArray t (0, 0))) (hl : off + news.length ≤ cur.length) (h1 : ∀ v ∈ news, v.oneCell' = true) :
    (storeCells ⟨g, off, none⟩ news 0).run P w = .ok () (w.setRow g (cur.take off ++ news ++ cur.drop (off + news.length)).toArray) := by
  have := run_storeCells_at P g off t news 0 cur.toArray w hg (by simpa using hl) h1
  simpa using this
theorem s_store (hT : TOK P T) (hG : HR ρ D N M G w) (hev : EvOK a ρ D ev) {t : TypeId} {x y : Operand} (hop : o.op = .store t x y) {ty : Ty} (ht : look T t = some ty) {id off : Nat} (hx : ev x = some (.av (.one (.p id off)))) {b : Blk} (hb : G id = some b) (hk : b.k = 0) {v : AV} (hy : ev y = some (.av v)) (hok : segsOk v.segs = true) (hw : widths v.segs = ty.size)
    {c : List Seg} (hc : segsVals ρ c = (segsVals ρ b.c).take off ++ segsVals ρ v.segs ++ (segsVals ρ b.c).drop (off + (segsVals ρ v.segs).length)) (hle : off + (segsVals ρ v.segs).length ≤ (segsVals ρ b.c).length) (hin : segsIn D c) {p : Asm} :
    Sn P o a w ρ D N M G base { val := ofV undef, upd := [(id, some ⟨0, b.ty, c⟩)], asm := p } := by
  have hty := hT t ty ht
  obtain ⟨hvx, _⟩ := hev x _ hx
  obtain ⟨hvy, _⟩ := hev y _ hy
  have hbk := (hG.blk id b hb).2.2
  obtain ⟨k, bty, bc⟩ := b
  simp only at hk
  subst hk
  obtain ⟨g, ha, hg⟩ := hbk
  have hst := storeCells_own (P := P) (off := off) (news := segsVals ρ v.segs) hg hle (segsVals_cell ρ hok)
  rw [← hc] at hst
  have hcells := AV.cells ρ hok
  have hsz : (v.conc ρ).cells.size = ty.size := by rw [hcells, List.size_toArray, segsVals_len, hw]
  have hrun : (Instr.storeAt t (a.eval x) (a.eval y)).run P w = .ok () (w.setRow g (segsVals ρ c).toArray) := by
    rw [hvx, hvy, conc_p, conc_av, ha]
    simp only [Option.map_some, Addr.add_lit, Nat.zero_add]
    simp only [Instr.storeAt, Instr.sureAddr, storeVar, Sem.run_bind, Sem.run_pure, Result.andThen_ok, hty.run_size, hcells]
    rw [if_neg (by rw [List.size_toArray, segsVals_len, hw]; simp)]
    exact hst
  have he : execOp a.eval o = (Instr.storeAt t (a.eval x) (a.eval y)) >>= fun _ => .pure .skip := by unfold execOp; rw [hop]; rfl
  have hr : (execOp a.eval o).run P w = .ok .skip (w.setRow g (segsVals ρ c).toArray) := by
    rw [he, Sem.run_bind, hrun]; rfl
  unfold Sn gives
  rw [hr]
  exact ⟨ρ, fits_put hG hb rfl hin rfl rfl rfl ha hg⟩

omit [GT] in
theorem take_put {α : Type} (cur vs : List α) (off n : Nat) (h : off + vs.length ≤ n) (hn : n ≤ cur.length) : (cur.take off ++ vs ++ cur.drop (off + vs.length)).take n = (cur.take n).take off ++ vs ++ (cur.take n).drop (off + vs.length) := by
  have e1 : (cur.take off).length = off := by rw [List.length_take]; omega
  rw [List.take_append, List.take_append, List.take_take, List.take_take, List.drop_take, e1, List.length_append, e1]
  rw [Nat.min_eq_right (by omega), Nat.min_eq_left (by omega : off ≤ n), List.take_of_length_le (by omega : vs.length ≤ n - off)]
/-- A store into a row that may grow. -/
theorem s_store1 (hT : TOK P T) (hG : HR ρ D N M G w) (hev : EvOK a ρ D ev) {t : TypeId} {x y : Operand} (hop : o.op = .store t x y) {ty : Ty} (ht : look T t = some ty) {id off : Nat} (hx : ev x = some (.av (.one (.p id off)))) {b : Blk} (hb : G id = some b) (hk : b.k = 1) {v : AV} (hy : ev y = some (.av v)) (hok : segsOk v.segs = true) (hw : widths v.segs = ty.size) (hpos : 1 ≤ ty.size)
    {c : List Seg} (hc : segsVals ρ c = (segsVals ρ b.c).take off ++ segsVals ρ v.segs ++ (segsVals ρ b.c).drop (off + (segsVals ρ v.segs).length)) (hle : off + (segsVals ρ v.segs).length ≤ (segsVals ρ b.c).length) (hin : segsIn D c) {p : Asm} :
    Sn P o a w ρ D N M G base { val := ofV undef, upd := [(id, some ⟨1, b.ty, c⟩)], asm := p } := by
  have hty := hT t ty ht
  obtain ⟨hvx, _⟩ := hev x _ hx
  obtain ⟨hvy, _⟩ := hev y _ hy
  have hbk := (hG.blk id b hb).2.2
  obtain ⟨k, bty, bc⟩ := b
  simp only at hk
  subst hk
  simp only at hc hle
  have hvl : (segsVals ρ v.segs).length = ty.size := by rw [segsVals_len, hw]
  rcases hbk.2 with ⟨_, h0⟩ | ⟨g, cap, cur, hv, hbg, hg, hnc, hcm, hcs, htake⟩
  · simp only at h0; omega
  · injection hv with ha _ hcap
    simp only [Nat.mul_one] at htake hcs hnc
    have hcl : cur.toList.length = cap := by simpa using hcs
    have hst := storeCells_own (P := P) (off := off) (cur := cur.toList) (news := segsVals ρ v.segs) (by simpa using hg) (by omega) (segsVals_cell ρ hok)
    have hcells := AV.cells ρ hok
    have hrun : (Instr.storeAt t (a.eval x) (a.eval y)).run P w = .ok () (w.setRow g (cur.toList.take off ++ segsVals ρ v.segs ++ cur.toList.drop (off + (segsVals ρ v.segs).length)).toArray) := by
      rw [hvx, hvy, conc_p, conc_av, ha]
      simp only [Option.map_some, Addr.add_lit, Nat.zero_add]
      simp only [Instr.storeAt, Instr.sureAddr, storeVar, Sem.run_bind, Sem.run_pure, Result.andThen_ok, hty.run_size, hcells]
      rw [if_neg (by rw [List.size_toArray, segsVals_len, hw]; simp)]
      exact hst
    have he : execOp a.eval o = (Instr.storeAt t (a.eval x) (a.eval y)) >>= fun _ => .pure .skip := by unfold execOp; rw [hop]; rfl
    have hr : (execOp a.eval o).run P w = .ok .skip (w.setRow g (cur.toList.take off ++ segsVals ρ v.segs ++ cur.toList.drop (off + (segsVals ρ v.segs).length)).toArray) := by
      rw [he, Sem.run_bind, hrun]; rfl
    have hlc : (segsVals ρ c).length = (segsVals ρ bc).length := by rw [hc]; simp; omega
    have hlc' : (List.take off (segsVals ρ bc) ++ segsVals ρ v.segs ++ List.drop (off + (segsVals ρ v.segs).length) (segsVals ρ bc)).length = (segsVals ρ bc).length := by rw [← hc, hlc]
    unfold Sn gives
    rw [hr]
    refine ⟨ρ, fits_put2 hG hb (Nat.lt_succ_self 1) rfl rfl rfl ha hin ?_⟩
    show World.ownsRow _ 0 bty 1 _ _ _
    refine ⟨(Nat.mul_one _).symm, .inr ⟨g, cap, (cur.toList.take off ++ segsVals ρ v.segs ++ cur.toList.drop (off + (segsVals ρ v.segs).length)).toArray, ?_, hbg, ?_, by rw [hlc]; exact hnc, hcm, by simp; omega, ?_⟩⟩
    · simp only [ha, hlc, hcap]
    · exact setRow_heap w g _ _ _ _ hg
    · rw [hc, ← htake]
      have := take_put cur.toList (segsVals ρ v.segs) off (segsVals ρ bc).length hle (by omega)
      rw [htake] at this ⊢
      rw [Nat.mul_one, hlc', this]

theorem s_extract (hG : HR ρ D N M G w) (hev : EvOK a ρ D ev) {x : Operand} {i : Nat} (hop : o.op = .extract x i) {l : List AV} (hx : ev x = some (.tup l)) {b : AV} (hb : l[i]? = some b) : Sn P o a w ρ D N M G base { val := .av b } := by
  refine sn_same hG (s := Instr.extract (a.eval x) i) (by unfold execOp; rw [hop]; rfl) ?_ rfl rfl
  rw [(hev x _ hx).1]
  have : ((l.map (AV.conc ρ)).toArray)[i]? = some (b.conc ρ) := by simp [hb]
  simp only [SV.conc, Instr.extract, this]
  rfl
theorem s_not (hG : HR ρ D N M G w) (hev : EvOK a ρ D ev) {t : TypeId} {x : Operand} (hop : o.op = .unOp .not t x) {b : Bool} (hx : ev x = some (ofV (.bool b))) : Sn P o a w ρ D N M G base { val := ofV (.bool !b) } := by
  refine sn_same hG (s := Op.unary .not (a.eval x)) (by unfold execOp; rw [hop]; rfl) ?_ rfl rfl
  rw [(hev x _ hx).1]
  rfl
theorem s_neg (hG : HR ρ D N M G w) (hev : EvOK a ρ D ev) {t : TypeId} {x : Operand} (hop : o.op = .unOp .neg t x) {k : IntKind} {z : Int} (hx : ev x = some (ofV (.int k z))) : Sn P o a w ρ D N M G base { val := ofV (.int k (k.wrap (0 - z))) } := by
  refine sn_same hG (s := Op.unary .neg (a.eval x)) (by unfold execOp; rw [hop]; rfl) ?_ rfl rfl
  rw [(hev x _ hx).1]
  rfl
theorem s_cpl (hG : HR ρ D N M G w) (hev : EvOK a ρ D ev) {t : TypeId} {x : Operand} (hop : o.op = .unOp .xor t x) {k : IntKind} {z : Int} (hx : ev x = some (ofV (.int k z))) : Sn P o a w ρ D N M G base { val := ofV (.int k (ixor k (if k.signed then -1 else k.max) z)) } := by
  refine sn_same hG (s := Op.unary .xor (a.eval x)) (by unfold execOp; rw [hop]; rfl) ?_ rfl rfl
  rw [(hev x _ hx).1]
  rfl
theorem s_nilCheck (hG : HR ρ D N M G w) (hev : EvOK a ρ D ev) {x : Operand} (hop : o.op = .nilCheck x) {id off : Nat} (hx : ev x = some (.av (.one (.p id off)))) {b : Blk} (hb : G id = some b) (hk : hasA b = true) : Sn P o a w ρ D N M G base { val := .av (.one (.p id off)) } := by
  obtain ⟨y, ha⟩ := (hG.blk id b hb).2.2.hasA hk
  refine Rg.gives_value (v := SV.conc ρ (.av (.one (.p id off)))) (w' := w) ?_ ⟨ρ, fits_same hG rfl rfl rfl⟩
  unfold execOp
  rw [hop]
  simp only
  rw [(hev x _ hx).1, conc_p, ha]
  rfl
omit [GT] in
theorem eqGuard_int {op : BinOp} {t : TypeId} {x y : Operand} {k : IntKind} {n : Int} {v : Value} : (eqGuard op t x y (.int k n) v).run P w = .ok () w := by cases op <;> cases v <;> rfl
omit [GT] in
theorem eqGuard_str {op : BinOp} {t : TypeId} {x y : Operand} {s : ByteArray} {v : Value} : (eqGuard op t x y (.string s) v).run P w = .ok () w := by cases op <;> cases v <;> rfl
omit [GT] in
theorem eqGuard_bool {op : BinOp} {t : TypeId} {x y : Operand} {s : Bool} {v : Value} : (eqGuard op t x y (.bool s) v).run P w = .ok () w := by cases op <;> cases v <;> rfl
omit [GT] in
theorem eqGuard_ptr {op : BinOp} {t : TypeId} {x y : Operand} {s : Option Addr} {v : Value} : (eqGuard op t x y (.pointer s) v).run P w = .ok () w := by cases op <;> cases v <;> rfl
omit [GT] in
theorem bin_exec {op : BinOp} {t t' : TypeId} {x y : Operand} (hop : o.op = .binOp op t x y t') : execOp a.eval o = (eqGuard op t x y (a.eval x) (a.eval y) >>= fun _ => Go.binOp op t (a.eval x) (a.eval y)).bind fun z => .pure (.value z) := by
  unfold execOp; rw [hop]; rfl
omit [GT] in
theorem bin_str {op : BinOp} {t : TypeId} {u v : ByteArray} {sym : Bool} {r : Value} {p : Asm} (h : binVal sym op (.string u) (.string v) = some (r, p)) : (Go.binOp op t (.string u) (.string v)).run P w = .ok r w := by
  cases op <;> simp only [binVal] at h <;> first | (cases h; done) | (simp only [Option.some.injEq, Prod.mk.injEq] at h; obtain ⟨rfl, _⟩ := h; unfold Go.binOp; simp [Op.stringOp]; done)
theorem bin_int {op : BinOp} {t : TypeId} {k j : IntKind} {u v : Int} {sym : Bool} {r : Value} {p : Asm} (h : binVal sym op (.int k u) (.int j v) = some (r, p)) (hp : p.holds) : (Go.binOp op t (.int k u) (.int j v)).run P w = .ok r w := by
  cases op
  case shl =>
    simp only [binVal] at h
    cases sym
    · simp only at h
      split at h
      · rename_i n
        simp only [Option.some.injEq, Prod.mk.injEq] at h
        obtain ⟨rfl, _⟩ := h
        have : ¬ (Int.ofNat n < 0) := by simp
        unfold Go.binOp
        simp only [Op.shift, if_neg this]
        rfl
      · cases h
    · simp only [Option.some.injEq, Prod.mk.injEq] at h
      obtain ⟨rfl, rfl⟩ := h
      unfold Go.binOp
      simp only [Op.shift, if_neg (Int.not_lt.2 hp)]
      rfl
  case shr =>
    simp only [binVal] at h
    cases sym
    · simp only at h
      split at h
      · rename_i n
        simp only [Option.some.injEq, Prod.mk.injEq] at h
        obtain ⟨rfl, _⟩ := h
        have : ¬ (Int.ofNat n < 0) := by simp
        unfold Go.binOp
        simp only [Op.shift, if_neg this]
        rfl
      · cases h
    · simp only [Option.some.injEq, Prod.mk.injEq] at h
      obtain ⟨rfl, rfl⟩ := h
      unfold Go.binOp
      simp only [Op.shift, if_neg (Int.not_lt.2 hp)]
      rfl
  case quo =>
    simp only [binVal] at h
    split at h
    · cases h
    · rename_i hk
      have hkj := ik_inj hk
      subst hkj
      unfold Go.binOp
      cases sym
      · simp only at h
        split at h
        · rename_i n
          simp only [Option.some.injEq, Prod.mk.injEq] at h
          obtain ⟨rfl, _⟩ := h
          have : ¬ (Int.ofNat (n + 1) = 0) := by simp; omega
          simp [Op.intDiv, this]
          omega
        · cases h
      · simp only [Option.some.injEq, Prod.mk.injEq] at h
        obtain ⟨rfl, rfl⟩ := h
        have hp' : v ≠ 0 := hp
        simp [Op.intDiv, hp']
  case rem =>
    simp only [binVal] at h
    split at h
    · cases h
    · rename_i hk
      have hkj := ik_inj hk
      subst hkj
      unfold Go.binOp
      cases sym
      · simp only at h
        split at h
        · rename_i n
          simp only [Option.some.injEq, Prod.mk.injEq] at h
          obtain ⟨rfl, _⟩ := h
          have : ¬ (Int.ofNat (n + 1) = 0) := by simp; omega
          simp [Op.intDiv, this]
          omega
        · cases h
      · simp only [Option.some.injEq, Prod.mk.injEq] at h
        obtain ⟨rfl, rfl⟩ := h
        have hp' : v ≠ 0 := hp
        simp [Op.intDiv, hp']
  all_goals
    simp only [binVal] at h
    split at h
    · cases h
    · rename_i hk
      have hkj := ik_inj hk
      subst hkj
      first
        | (cases h; done)
        | (simp only [Option.some.injEq, Prod.mk.injEq] at h; obtain ⟨rfl, _⟩ := h; unfold Go.binOp; simp [Op.intArith, Op.intBits, Op.intCmp, iand, ior, ixor, iandn]; done)
theorem s_bin (hG : HR ρ D N M G w) (hev : EvOK a ρ D ev) {op : BinOp} {t t' : TypeId} {x y : Operand} (hop : o.op = .binOp op t x y t') {u v : Value} (hx : ev x = some (ofV u)) (hy : ev y = some (ofV v)) {sym : Bool} {r : Value} {p : Asm} (h : binVal sym op u v = some (r, p)) (hp : p.holds) : Sn P o a w ρ D N M G base { val := ofV r, asm := p } := by
  refine sn_same hG (bin_exec hop) ?_ rfl rfl
  rw [(hev x _ hx).1, (hev y _ hy).1]
  change ((eqGuard op t x y u v) >>= fun _ => Go.binOp op t u v).run P w = .ok r w
  rw [Sem.run_bind]
  cases u
  case int k u =>
    cases v
    case int j v =>
      rw [eqGuard_int]
      exact bin_int h hp
    all_goals cases op <;> simp [binVal] at h
  case string u =>
    cases v
    case string v =>
      rw [eqGuard_str]
      exact bin_str h
    all_goals simp [binVal] at h
  all_goals simp [binVal] at h

end
end Go.Proofs.YtpefomdegbmecaaDoor.Am
