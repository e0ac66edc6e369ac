/- The abstract machine: what an operation comes to, reckoned. Conditions: none. -/
import Derived.Test.YtkoackalpcmhaaaM1
namespace Go.Proofs.Ytkoackalpcmhaaa.Am
set_option linter.unusedVariables false
set_option linter.unusedSimpArgs false
open Go Go.RowKit

/-! ### Cells of a list of segments -/
def Seg.width : Seg → Nat
  | .num _ => 4
  | .arr _ l => l.length
  | .ap _ F n => (F n).length
  | _ => 1
def widths : List Seg → Nat
  | [] => 0
  | x :: l => x.width + widths l
def cut : List Seg → Nat → Option (List Seg × List Seg)
  | [], 0 => some ([], [])
  | [], _ + 1 => none
  | x :: l, 0 => some ([], x :: l)
  | x :: l, n + 1 =>
    match Nat.ble x.width (n + 1) with
    | true => match cut l (n + 1 - x.width) with
      | some (a, b) => some (x :: a, b)
      | none => none
    | false => match x with
      | .num m => some ([.arr .u64 ((words m).take (n + 1))], .arr .u64 ((words m).drop (n + 1)) :: l)
      | .arr k zs => some ([.arr k (zs.take (n + 1))], .arr k (zs.drop (n + 1)) :: l)
      | .ap k F m => some ([.arr k ((F m).take (n + 1))], .arr k ((F m).drop (n + 1)) :: l)
      | _ => none
def getSegs (l : List Seg) (off n : Nat) : Option (List Seg) :=
  match cut l off with
  | some (_, r) => match cut r n with
    | some (m, _) => some m
    | none => none
  | none => none
def cellOf (off : Nat) : Seg → Seg
  | .num m => .v (.int .u64 ((words m).getD off 0))
  | .arr k zs => .v (.int k (zs.getD off 0))
  | .ap k F n => .v (.int k ((F n).getD off 0))
  | x => x
def cell : List Seg → Nat → Option Seg
  | [], _ => none
  | x :: l, off => match Nat.ble x.width off with
    | true => cell l (off - x.width)
    | false => some (cellOf off x)
def ik : IntKind → Nat
  | .i8 => 0 | .i16 => 1 | .i32 => 2 | .i64 => 3 | .u8 => 4 | .u16 => 5 | .u32 => 6 | .u64 => 7
def putOf (off : Nat) (y : Seg) : Seg → Option (List Seg)
  | .num m => match y with
    | .v (.int k z) => match Nat.beq (ik k) 7 with
      | true => some [.arr .u64 ((words m).set off z)]
      | false => none
    | _ => none
  | .arr j zs => match y with
    | .v (.int k z) => match Nat.beq (ik k) (ik j) with
      | true => some [.arr j (zs.set off z)]
      | false => none
    | _ => none
  | .ap j F n => match y with
    | .v (.int k z) => match Nat.beq (ik k) (ik j) with
      | true => some [.arr j ((F n).set off z)]
      | false => none
    | _ => none
  | _ => some [y]
def putCell (y : Seg) : List Seg → Nat → Option (List Seg)
  | [], _ => none
  | x :: l, off => match Nat.ble x.width off with
    | true => match putCell y l (off - x.width) with
      | some r => some (x :: r)
      | none => none
    | false => match putOf off y x with
      | some r => some (r ++ l)
      | none => none
def putSegs (l : List Seg) (off : Nat) (news : List Seg) : Option (List Seg) :=
  match cut l off with
  | some (a, r) => match cut r (widths news) with
    | some (_, c) => some (a ++ news ++ c)
    | none => none
  | none => none
def join : List Seg → List Seg → List Seg
  | [], [.v (.int k z)] => [.arr k [z]]
  | [.arr j l], [.v (.int k z)] => match Nat.beq (ik k) (ik j) with
    | true => [.arr j (l ++ [z])]
    | false => [.arr j l, .v (.int k z)]
  | [.arr j l], [.arr k m] => match Nat.beq (ik k) (ik j) with
    | true => [.arr j (l ++ m)]
    | false => [.arr j l, .arr k m]
  | a, b => a ++ b
def mkAgg : List Seg → AV
  | [.num n] => .one (.num n)
  | [.arr k l] => .one (.arr k l)
  | [.ap k F n] => .one (.ap k F n)
  | l => .agg l

def intsOf (k : IntKind) : List Seg → Option (List Int)
  | [] => some []
  | .v (.int j z) :: l => match Nat.beq (ik j) (ik k), intsOf k l with
    | true, some r => some (z :: r)
    | _, _ => none
  | .arr j zs :: l => match Nat.beq (ik j) (ik k), intsOf k l with
    | true, some r => some (zs ++ r)
    | _, _ => none
  | .ap j F n :: l => match Nat.beq (ik j) (ik k), intsOf k l with
    | true, some r => some (F n ++ r)
    | _, _ => none
  | _ => none
def b64 (n : Nat) : Bool := Nat.blt n 18446744073709551616
/-- Four words that are known are a number. -/
def normNum (l : List Seg) : AV := match intsOf .u64 l with
  | some [.ofNat a, .ofNat b, .ofNat c, .ofNat d] => match b64 a && b64 b && b64 c && b64 d with
    | true => .one (.num (a + 18446744073709551616 * b + 340282366920938463463374607431768211456 * c + 6277101735386680763835789423207666416102355444464034512896 * d))
    | false => mkAgg l
  | _ => mkAgg l

/-! ### Types -/
inductive U where
  | int (k : IntKind) | bool | str | arr (n : Nat) (e : TypeId) | st (fs : List (Nat × TypeId)) | sl (e : TypeId) | ptr (e : TypeId) | oth
structure Ty where
  size : Nat
  bytes : Nat
  zero : AV
  u : U
  eqk : Option IntKind := none
def U.agg : U → Bool
  | .arr _ _ => true
  | .st _ => true
  | _ => false
def look {α : Type} : List (Nat × α) → Nat → Option α
  | [], _ => none
  | (k, x) :: l, n => match Nat.beq k n with
    | true => some x
    | false => look l n

/-- What is leaned on. -/
inductive Asm where
  | tt
  | and (a b : Asm)
  | say (p : Prop)
def Asm.holds : Asm → Prop
  | .tt => True
  | .and a b => a.holds ∧ b.holds
  | .say p => p
def Asm.list : Asm → List Prop → List Prop
  | .tt, l => l
  | .and a b, l => a.list (b.list l)
  | .say p, l => p :: l
def AllP : List Prop → Prop
  | [] => True
  | p :: l => p ∧ AllP l
theorem Asm.of_list : ∀ (a : Asm) (l : List Prop), AllP (a.list l) → a.holds ∧ AllP l
  | .tt, _, h => ⟨trivial, h⟩
  | .and a b, l, h => ⟨⟨(a.of_list _ h).1, (b.of_list l (a.of_list _ h).2).1⟩, (b.of_list l (a.of_list _ h).2).2⟩
  | .say _, _, h => h

/-- What an operation comes to: its value, new blocks, blocks that change or go, and what it leans on. -/
structure Res where
  val : SV
  new : List Blk := []
  upd : List (Nat × Option Blk) := []
  asm : Asm := .tt
structure Hint where
  sym : Bool := false
  is : Option SV := none
  c : Option (List Seg) := none
abbrev Ent := List SV → (Nat → Option Blk) → Nat → Option Res

def ofV (v : Value) : SV := .av (.one (.v v))
def ret (s : Option SV) : Option Res := match s with
  | some s => some { val := s }
  | none => none

/-- Where part i of a type lies, and how many cells it has. -/
def place (T : List (Nat × Ty)) (u : U) (i : Nat) : Option (Nat × Nat) :=
  match u with
  | .arr _ e => match look T e with
    | some ty => some (i * ty.size, ty.size)
    | none => none
  | .st fs => match fs[i]? with
    | some (off, t) => match look T t with
      | some ty => some (off, ty.size)
      | none => none
    | none => none
  | _ => none
def fillIn (pl : Nat → Option (Nat × Nat)) (ev : Operand → Option SV) : List Seg → List (Nat × Operand) → Option (List Seg)
  | c, [] => some c
  | c, (i, x) :: l => match pl i, ev x with
    | some (off, n), some (.av a) => match Nat.beq (widths a.segs) n && segsOk a.segs with
      | true => match putSegs c off a.segs with
        | some c' => fillIn pl ev c' l
        | none => none
      | false => none
    | _, _ => none
def times (n : Nat) (l : List Seg) : List Seg := match n with
  | 0 => []
  | n + 1 => l ++ times n l

def aggB : AV → Bool
  | .agg _ => true
  | .one (.num _) => true
  | .one (.arr _ _) => true
  | .one (.ap _ _ _) => true
  | _ => false
/-- What is read at a place. -/
def readAt (ty : Ty) (sym : Bool) (c : List Seg) (off : Nat) : Option (SV × Asm) :=
  match ty.u.agg with
  | true => match getSegs c off ty.size, Nat.ble 1 ty.size with
    | some l, true => some (.av (mkAgg l), .tt)
    | _, _ => none
  | false => match sym with
    | true => match c with
      | [.arr k zs] => some (ofV (.int k (zs.getD off 0)), .say (off < zs.length))
      | [.ap k F n] => some (ofV (.int k ((F n).getD off 0)), .say (off < (F n).length))
      | [.num m] => some (ofV (.int .u64 (word m off)), .say (off < 4))
      | _ => none
    | false => match cell c off with
      | some x => some (.av (.one x), .tt)
      | none => none
def storeAt (ty : Ty) (sym : Bool) (c : List Seg) (off : Nat) (a : AV) : Option (List Seg × Asm) :=
  match Nat.beq (widths a.segs) ty.size && segsOk a.segs with
  | false => none
  | true => match sym with
    | true => match c, a with
      | [.arr j zs], .one (.v (.int k z)) => match Nat.beq (ik k) (ik j) with
        | true => some ([.arr j (zs.set off z)], .say (off < zs.length))
        | false => none
      | _, _ => none
    | false => match a with
      | .one (.v x) => match putCell (.v x) c off with
        | some c' => some (c', .tt)
        | none => none
      | a => match putSegs c off a.segs with
        | some c' => some (c', .tt)
        | none => none

/-- A number from 0 to hi: as it is reckoned, or told. -/
def natOf (sym : Bool) (hi : Nat) : SV → Option (Nat × Asm)
  | .av (.one (.v (.int _ z))) => match sym with
    | true => some (z.toNat, .say (0 ≤ z ∧ z.toNat ≤ hi))
    | false => match z with
      | .ofNat n => match Nat.ble n hi with
        | true => some (n, .tt)
        | false => none
      | _ => none
  | _ => none
def within (sym : Bool) (a b : Nat) : Option Asm := match sym with
  | true => some (.say (a ≤ b))
  | false => match Nat.ble a b with
    | true => some .tt
    | false => none

def binVal (sym : Bool) (op : BinOp) (x y : Value) : Option (Value × Asm) :=
  match x with
  | .int k a => match y with
    | .int j b => match op with
      | .shl => match sym with
        | true => some (.int k (k.wrap (a * 2 ^ min b.toNat k.bits)), .say (0 ≤ b))
        | false => match b with
          | .ofNat n => some (.int k (k.wrap (a * 2 ^ min n k.bits)), .tt)
          | _ => none
      | .shr => match sym with
        | true => some (.int k (a.fdiv (2 ^ min b.toNat k.bits)), .say (0 ≤ b))
        | false => match b with
          | .ofNat n => some (.int k (a.fdiv (2 ^ min n k.bits)), .tt)
          | _ => none
      | _ => match Nat.beq (ik k) (ik j) with
        | false => none
        | true => match op with
          | .add => some (.int k (k.wrap (a + b)), .tt)
          | .sub => some (.int k (k.wrap (a - b)), .tt)
          | .mul => some (.int k (k.wrap (a * b)), .tt)
          | .quo => match sym with
            | true => some (.int k (k.wrap (a.tdiv b)), .say (b ≠ 0))
            | false => match b with
              | .ofNat (n + 1) => some (.int k (k.wrap (a.tdiv (.ofNat (n + 1)))), .tt)
              | _ => none
          | .rem => match sym with
            | true => some (.int k (a.tmod b), .say (b ≠ 0))
            | false => match b with
              | .ofNat (n + 1) => some (.int k (a.tmod (.ofNat (n + 1))), .tt)
              | _ => none
          | .and => some (.int k (k.wrap (BitVec.ofInt k.bits a &&& BitVec.ofInt k.bits b).toNat), .tt)
          | .or => some (.int k (k.wrap (BitVec.ofInt k.bits a ||| BitVec.ofInt k.bits b).toNat), .tt)
          | .xor => some (.int k (k.wrap (BitVec.ofInt k.bits a ^^^ BitVec.ofInt k.bits b).toNat), .tt)
          | .andNot => some (.int k (k.wrap (BitVec.ofInt k.bits a &&& ~~~ BitVec.ofInt k.bits b).toNat), .tt)
          | .eql => some (.bool (a == b), .tt)
          | .neq => some (.bool (a != b), .tt)
          | .lss => some (.bool (decide (a < b)), .tt)
          | .leq => some (.bool (decide (a ≤ b)), .tt)
          | .gtr => some (.bool (decide (a > b)), .tt)
          | .geq => some (.bool (decide (a ≥ b)), .tt)
          | _ => none
    | _ => none
  | .string a => match y with
    | .string b => match op with
      | .eql => some (.bool (a.toList == b.toList), .tt)
      | .neq => some (.bool (!(a.toList == b.toList)), .tt)
      | _ => none
    | _ => none
  | _ => none
/-- Two numbers of four words, held against each other. -/
def numEq (a b : Nat) : Bool := words a == words b

/-- A slice that can be read: block, offset, length; what must hold. -/
def rowOf (sym : Bool) (G : Nat → Option Blk) : SV → Option (Nat × Nat × Nat × Blk × Asm)
  | .av (.one (.s id off len _)) => match G id with
    | some b => match within sym (off + len) (widths b.c) with
      | some p => some (id, off, len, b, p)
      | none => none
    | none => none
  | .av (.one (.r id off len _)) => match G id with
    | some b => match within sym (off + len) (widths b.c), Nat.ble 1 b.k with
      | some p, true => some (id, off, len, b, p)
      | _, _ => none
    | none => none
  | _ => none
def readSegs (h : Hint) (c : List Seg) (off n : Nat) : Option (List Seg × Asm) :=
  match h.sym with
  | true => match c with
    | [.arr k zs] => some ([.arr k ((zs.drop off).take n)], .tt)
    | [.ap k F m] => some ([.arr k (((F m).drop off).take n)], .tt)
    | _ => none
  | false => match getSegs c off n with
    | some l => some (l, .tt)
    | none => none
def strOf (zs : List Int) : ByteArray := ⟨(zs.map fun z => UInt8.ofNat z.toNat).toArray⟩

/-- Does a block surely lie somewhere? -/
def hasA (b : Blk) : Bool := match b.k with
  | 0 => true
  | 1 => false
  | _ => Nat.ble 1 (widths b.c)
/-- Places, reckoned so that they stay short. -/
def mulO (j sz : Nat) : Nat := match Nat.beq sz 1 with
  | true => j
  | false => j * sz
def plusO (a b : Nat) : Nat := match Nat.beq a 0 with
  | true => b
  | false => a + b
def slOff (off l h m sz : Nat) : Nat := match Nat.beq l 0 with
  | true => off
  | false => match Nat.blt l h with
    | true => plusO off (mulO l sz)
    | false => if m = l then off else plusO off (mulO l sz)
theorem mulO_eq (j sz : Nat) : mulO j sz = j * sz := by
  unfold mulO
  split
  · rename_i h
    have := Nat.eq_of_beq_eq_true h
    subst this
    rw [Nat.mul_one]
  · rfl
theorem plusO_eq (a b : Nat) : plusO a b = a + b := by
  unfold plusO
  split
  · rename_i h
    have := Nat.eq_of_beq_eq_true h
    subst this
    rw [Nat.zero_add]
  · rfl
theorem slOff_eq (off l h m sz : Nat) (hm : h ≤ m) : slOff off l h m sz = if m = l then off else off + l * sz := by
  unfold slOff
  split
  · rename_i h
    have := Nat.eq_of_beq_eq_true h
    subst this
    rw [Nat.zero_mul, Nat.add_zero]
    split <;> rfl
  · split
    · rename_i hl
      have : l + 1 ≤ h := Nat.le_of_ble_eq_true hl
      rw [if_neg (by omega), plusO_eq, mulO_eq]
    · rw [plusO_eq, mulO_eq]
/-- x[lo:hi:mx] -/
def bnds (sym : Bool) (len cap : Nat) (lo hi mx : Option SV) : Option (Nat × Nat × Nat × Asm) :=
  match mx with
  | some v => match natOf sym cap v, hi with
    | some (m, p1), some u => match natOf sym m u with
      | some (h, p2) => match lo with
        | some z => match natOf sym h z with
          | some (l, p3) => some (l, h, m, p1.and (p2.and p3))
          | none => none
        | none => some (0, h, m, p1.and p2)
      | none => none
    | _, _ => none
  | none => match hi with
    | some u => match natOf sym cap u with
      | some (h, p2) => match lo with
        | some z => match natOf sym h z with
          | some (l, p3) => some (l, h, cap, p2.and p3)
          | none => none
        | none => some (0, h, cap, p2)
      | none => none
    | none => match lo with
      | some z => match natOf sym len z with
        | some (l, p3) => some (l, len, cap, p3)
        | none => none
      | none => some (0, len, cap, .tt)
def sliceOf (sym : Bool) (sz : Nat) (G : Nat → Option Blk) (x : SV) (lo hi mx : Option SV) (arrLen : Nat) : Option Res :=
  match x with
  | .av (.one (.p id off)) => match G id with
    | some b => match hasA b, bnds sym arrLen arrLen lo hi mx with
      | true, some (l, h, m, p) => some { val := .av (.one (.s id (slOff off l h m sz) (h - l) (m - l))), asm := p }
      | _, _ => none
    | none => none
  | .av (.one (.v (.slice none 0 0))) => match bnds sym 0 0 lo hi mx with
    | some (_, _, _, p) => some { val := x, asm := p }
    | none => none
  | .av (.one (.s id off len cap)) => match bnds sym len cap lo hi mx, within sym len cap with
    | some (l, h, m, p), some p0 => some { val := .av (.one (.s id (slOff off l h m sz) (h - l) (m - l))), asm := p0.and p }
    | _, _ => none
  | .av (.one (.r id off len ad)) => match G id with
    | some b => match Nat.ble 1 b.k, Nat.beq sz 1, within sym (off + len) (widths b.c), mx with
      | true, true, some p0, none => match bnds sym len (widths b.c - off) lo hi none with
        | some (l, h, _, p) => some { val := .av (.one (.r id (plusO off l) (h - l) (if l = 0 then ad else off))), asm := p0.and p }
        | none => none
      | true, true, some p0, some v => match bnds sym len (widths b.c - off) lo hi (some v) with
        | some (0, h, m, p) => match within sym 1 m with
          | some p1 => some { val := .av (.one (.s id off h m)), asm := p0.and (p.and p1) }
          | none => none
        | _ => none
      | _, _, _, _ => none
    | none => none
  | _ => none

def evs (ev : Operand → Option SV) : List Operand → Option (List SV)
  | [] => some []
  | x :: l => match ev x, evs ev l with
    | some a, some r => some (a :: r)
    | _, _ => none
def okSize : Nat := 140737488355328
def isNil : SV → Bool
  | .av (.one (.v (.slice none 0 0))) => true
  | _ => false

def killOf : Option Nat → List (Nat × Option Blk)
  | some id => [(id, none)]
  | none => []
/-- What append grows. -/
def oldRow (e : TypeId) (G : Nat → Option Blk) (sym : Bool) : SV → Option (Option Nat × List Seg × Asm)
  | .av (.one (.v (.slice none 0 0))) => some (none, [], .tt)
  | .av (.one (.r id 0 len 0)) => match G id with
    | some ⟨1, ty, c⟩ => match Nat.beq ty e, sym with
      | true, true => some (some id, c, .say (len = widths c))
      | true, false => match Nat.beq len (widths c) with
        | true => some (some id, c, .tt)
        | false => none
      | _, _ => none
    | _ => none
  | .av (.one (.s id 0 len cap)) => match G id with
    | some ⟨0, ty, c⟩ => match Nat.beq ty e, sym with
      | true, true => some (some id, c, .say (len = widths c ∧ cap = widths c))
      | true, false => match Nat.beq len (widths c) && Nat.beq cap (widths c) with
        | true => some (some id, c, .tt)
        | false => none
      | _, _ => none
    | _ => none
  | _ => none

def builtinOf (T : List (Nat × Ty)) (G : Nat → Option Blk) (h : Hint) (base : Nat) (b : Builtin) (ts : List TypeId) (args : List SV) : Option Res :=
  match b with
  | .len => match args, ts with
    | [x], [t] => match look T t with
      | none => none
      | some ty => match ty.u with
        | .arr n _ => some { val := ofV (.int .i64 n) }
        | .sl _ => match x with
          | .av (.one (.s _ _ len _)) => some { val := ofV (.int .i64 len) }
          | .av (.one (.r _ _ len _)) => some { val := ofV (.int .i64 len) }
          | .av (.one (.v (.slice _ len _))) => some { val := ofV (.int .i64 len) }
          | _ => none
        | .str => match x with
          | .av (.one (.v (.string s))) => some { val := ofV (.int .i64 s.size) }
          | _ => none
        | _ => none
    | _, _ => none
  | .append => match args, ts with
    | [x, y], [t, t'] => match Nat.beq t t', look T t with
      | true, some ty => match ty.u with
        | .sl e => match look T e with
          | none => none
          | some te => match Nat.beq te.size 1 with
            | false => none
            | true => match isNil y with
              | true => match x with
                | .av (.one (.v (.slice none 0 0))) => some { val := x }
                | _ => match oldRow e G h.sym x with
                  | some (_, _, p1) => some { val := x, asm := p1 }
                  | none => none
              | false => match oldRow e G h.sym x, rowOf h.sym G y with
                | some (old, c, p1), some (_, off, m, b, p2) => match readSegs h b.c off m with
                  | some (news, p3) => match within h.sym ((widths c + m) * (te.bytes + 1)) okSize, segsOk b.c with
                    | some p4, true => some { val := .av (.one (.r base 0 (widths c + m) 0)), new := [⟨1, e, match h.c with | some l => l | none => join c news⟩], upd := killOf old, asm := p1.and (p2.and (p3.and (p4.and (match h.c with | some l => .say (∀ ρ, segsVals ρ l = segsVals ρ (join c news)) | none => .tt)))) }
                    | _, _ => none
                  | none => none
                | _, _ => none
        | _ => none
      | _, _ => none
    | _, _ => none
  | .min => match args with
    | [.av (.one (.v (.int k x))), .av (.one (.v (.int _ y)))] => some { val := ofV (.int k (if y < x then y else x)) }
    | _ => none
  | _ => none

def aop1 (T : List (Nat × Ty)) (O : List (Nat × Ent)) (G : Nat → Option Blk) (ev : Operand → Option SV) (h : Hint) (base : Nat) (o : Op) : Option Res :=
  match o with
  | .move x => ret (ev x)
  | .assign x => ret (ev x)
  | .pick c a b => match ev c with
    | some (.av (.one (.v (.bool true)))) => ret (ev a)
    | some (.av (.one (.v (.bool false)))) => ret (ev b)
    | _ => none
  | .alloc t => match look T t with
    | some ty => some { val := .av (.one (.p base 0)), new := [⟨0, t, ty.zero.segs⟩] }
    | none => none
  | .box t x => match ev x with
    | some (.av a) => match segsOk a.segs with
      | true => some { val := .av (.one (.p base 0)), new := [⟨0, t, a.segs⟩] }
      | false => none
    | _ => none
  | .build t parts => match look T t with
    | some ty => match ty.u with
      | .arr n e => match look T e, fillIn (place T (.arr n e)) ev ty.zero.segs parts.toList with
        | some _, some l => some { val := .av (normNum l) }
        | _, _ => none
      | .st fs => match fillIn (place T (.st fs)) ev ty.zero.segs parts.toList with
        | some l => some { val := .av (mkAgg l) }
        | none => none
      | _ => none
    | none => none
  | .buildSlice t len parts => match look T t with
    | some ty => match ty.u with
      | .sl e => match look T e with
        | some te => match Nat.ble (len * te.size) 16777216, fillIn (place T (.arr len e)) ev (times len te.zero.segs) parts.toList with
          | true, some l => some { val := .av (.one (.s base 0 len len)), new := [⟨0, e, l⟩] }
          | _, _ => none
        | none => none
      | _ => none
    | none => none
  | .load t x => match look T t, ev x with
    | some ty, some (.av (.one (.p id off))) => match G id with
      | some b => match readAt ty h.sym b.c off with
        | some (v, p) => some { val := v, asm := p }
        | none => none
      | none => none
    | _, _ => none
  | .store t x y => match look T t, ev x, ev y with
    | some ty, some (.av (.one (.p id off))), some (.av a) => match G id with
      | some b => match Nat.beq b.k 0 with
        | true => match storeAt ty h.sym b.c off a with
          | some (c, p) => some { val := ofV undef, upd := [(id, some ⟨0, b.ty, c⟩)], asm := p }
          | none => none
        | false => none
      | none => none
    | _, _, _ => none
  | .nilCheck x => match ev x with
    | some (.av (.one (.p id off))) => match G id with
      | some b => match hasA b with
        | true => some { val := .av (.one (.p id off)) }
        | false => none
      | none => none
    | _ => none
  | .binOp op t x y _ => match ev x, ev y with
    | some (.av (.one (.v (.bool a)))), some (.av (.one (.v (.bool b)))) => match look T t with
      | some ty => match ty.u with
        | .bool => match op with
          | .eql => some { val := ofV (.bool (a == b)) }
          | .neq => some { val := ofV (.bool (!(a == b))) }
          | _ => none
        | _ => none
      | none => none
    | some (.av (.one (.v a))), some (.av (.one (.v b))) => match binVal h.sym op a b with
      | some (v, p) => some { val := ofV v, asm := p }
      | none => none
    | some (.av (.one (.p id _))), some (.av (.one (.v (.pointer none)))) => match look T t with
      | some ty => match ty.u, G id with
        | .ptr _, some b => match hasA b, op with
          | true, .eql => some { val := ofV (.bool false) }
          | true, .neq => some { val := ofV (.bool true) }
          | _, _ => none
        | _, _ => none
      | none => none
    | some (.av (.one (.num a))), some (.av (.one (.num b))) => match look T t with
      | some ty => match ty.u, ty.eqk with
        | .arr 4 _, some .u64 => match op with
          | .eql => some { val := ofV (.bool (numEq a b)) }
          | .neq => some { val := ofV (.bool (!numEq a b)) }
          | _ => none
        | _, _ => none
      | none => none
    | some (.av a), some (.av b) => match look T t with
      | some ty => match ty.u, ty.eqk with
        | .arr n _, some q => match intsOf q a.segs, intsOf q b.segs, aggB a && aggB b with
          | some u, some v, true => match Nat.beq u.length n && Nat.beq v.length n, op with
            | true, .eql => some { val := ofV (.bool (u == v)) }
            | true, .neq => some { val := ofV (.bool (!(u == v))) }
            | _, _ => none
          | _, _, _ => none
        | _, _ => none
      | none => none
    | _, _ => none
  | .unOp op _ x => match ev x with
    | some (.av (.one (.v (.bool b)))) => match op with
      | .not => some { val := ofV (.bool !b) }
      | _ => none
    | _ => none
  | .convert s d x => match look T s, look T d, ev x with
    | some ts, some ty, some x => match ty.u with
      | .int k => match x with
        | .av (.one (.v (.int _ n))) => some { val := ofV (.int k (k.wrap n)) }
        | _ => none
      | .str => match ts.u with
        | .sl e => match look T e with
          | some te => match te.u with
            | .int .u8 => match isNil x with
              | true => some { val := ofV (.string .empty) }
              | false => match rowOf h.sym G x with
                | some (_, off, m, b, p1) => match readSegs h b.c off m with
                  | some (l, p2) => match intsOf .u8 l with
                    | some zs => some { val := ofV (.string (strOf zs)), asm := p1.and p2 }
                    | none => none
                  | none => none
                | none => none
            | _ => none
          | none => none
        | _ => none
      | _ => none
    | _, _, _ => none
  | .sliceToArrayPointer t x => match look T t, ev x with
    | some ty, some x => match ty.u with
      | .arr n _ => match rowOf h.sym G x with
        | some (id, off, m, _, p1) => match within h.sym n m, Nat.ble 1 n with
          | some p2, true => some { val := .av (.one (.p id off)), asm := p1.and p2 }
          | _, _ => none
        | none => none
      | _ => none
    | _, _ => none
  | .makeSlice t l c => match look T t, ev l, ev c with
    | some ty, some l, some c => match ty.u with
      | .sl e => match look T e with
        | some te => match te.zero with
          | .one (.v (.int k z0)) => match natOf h.sym okSize l, natOf h.sym okSize c with
            | some (n, p1), some (m, p2) => match within h.sym (n * (te.bytes + 1)) okSize, (match h.sym with | true => some (.say (n = m)) | false => match Nat.beq n m with | true => some .tt | false => none) with
              | some p3, some p4 => some { val := .av (.one (.s base 0 n n)), new := [⟨0, e, [.arr k (List.replicate n z0)]⟩], asm := p1.and (p2.and (p3.and p4)) }
              | _, _ => none
            | _, _ => none
          | _ => none
        | none => none
      | _ => none
    | _, _, _ => none
  | .slice t x lo hi mx => match look T t, ev x with
    | some ty, some x =>
      let g (y : Option Operand) : Option (Option SV) := match y with
        | none => some none
        | some z => match ev z with
          | some v => some (some v)
          | none => none
      match g lo, g hi, g mx with
      | some lo, some hi, some mx => match ty.u with
        | .arr n e => match look T e, x with
          | some te, .av (.one (.p id off)) => sliceOf h.sym te.size G (.av (.one (.p id off))) lo hi mx n
          | _, _ => none
        | .sl e => match look T e, x with
          | some _, .av (.one (.p _ _)) => none
          | some te, x => sliceOf h.sym te.size G x lo hi mx 0
          | none, _ => none
        | _ => none
      | _, _, _ => none
    | _, _ => none
  | .fieldAddr t x f => match look T t, ev x with
    | some ty, some (.av (.one (.p id off))) => match ty.u, place T ty.u f, G id with
      | .st _, some (o, n), some b => match Nat.ble 1 n && hasA b with
        | true => some { val := .av (.one (.p id (off + o))) }
        | false => none
      | _, _, _ => none
    | _, _ => none
  | .field t x f => match look T t, ev x with
    | some ty, some (.av a) => match ty.u with
      | .st fs => match fs[f]? with
        | some (off, t') => match look T t' with
          | some ty' => match segsOk a.segs && aggB a, readAt ty' false a.segs off with
            | true, some (v, p) => some { val := v, asm := p }
            | _, _ => none
          | none => none
        | none => none
      | _ => none
    | _, _ => none
  | .indexAddr t x i => match look T t, ev x, ev i with
    | some ty, some x, some i => match ty.u with
      | .arr n e => match x, look T e, natOf h.sym (n - 1) i with
        | .av (.one (.p id off)), some te, some (j, p) => match G id with
          | some b => match Nat.ble 1 n && hasA b with
            | true => some { val := .av (.one (.p id (plusO off (mulO j te.size)))), asm := p }
            | false => none
          | none => none
        | _, _, _ => none
      | .sl e => match rowOf h.sym G x, look T e with
        | some (id, off, m, _, p1), some te => match natOf h.sym (m - 1) i with
          | some (j, p2) => match within h.sym 1 m with
            | some p3 => some { val := .av (.one (.p id (plusO off (mulO j te.size)))), asm := p1.and (p2.and p3) }
            | none => none
          | none => none
        | _, _ => none
      | _ => none
    | _, _, _ => none
  | .index t x i => match look T t, ev x, ev i with
    | some ty, some (.av a), some i => match ty.u with
      | .arr n e => match look T e, natOf h.sym (n - 1) i with
        | some te, some (j, p) => match segsOk a.segs && aggB a && Nat.ble 1 n, readAt te h.sym a.segs (mulO j te.size) with
          | true, some (v, p') => some { val := v, asm := p.and p' }
          | _, _ => none
        | _, _ => none
      | _ => none
    | _, _, _ => none
  | .extract x i => match ev x with
    | some (.tup l) => match l[i]? with
      | some a => some { val := .av a }
      | none => none
    | _ => none
  | .call c => match c.callee with
    | .value (.func f) => match look O f, evs ev c.args.toList with
      | some e, some l => e l G base
      | _, _ => none
    | .builtin b => match evs ev c.args.toList with
      | some l => builtinOf T G h base b c.argTypes.toList l
      | none => none
    | _ => none
  | _ => none

def aop (T : List (Nat × Ty)) (O : List (Nat × Ent)) (G : Nat → Option Blk) (ev : Operand → Option SV) (h : Hint) (base : Nat) (o : Op) : Option Res :=
  match aop1 T O G ev h base o with
  | none => none
  | some r => match h.is with
    | none => some r
    | some s => some { r with val := s, asm := r.asm.and (.say (∀ ρ : Nat → Loc, r.val.conc ρ = s.conc ρ)) }

end Go.Proofs.Ytkoackalpcmhaaa.Am
