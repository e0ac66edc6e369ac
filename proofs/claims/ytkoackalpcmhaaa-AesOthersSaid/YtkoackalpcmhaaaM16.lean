/- The abstract machine: a region that draws its order. Conditions: none. -/
import Derived.Test.YtkoackalpcmhaaaM15
namespace Go.Proofs.Ytkoackalpcmhaaa.Am
set_option linter.unusedVariables false
set_option linter.unusedSimpArgs false
open Go Go.RowKit
open Rg (gives at_ writerOf dstOf)

/-- The masks of what an operation waits for. -/
def ancL : List Oper → List Nat → List Nat
  | [], A => A
  | o :: l, A => ancL l (A ++ [Rg.anc1 (at_ A) o])
def updO : Op → Bool
  | .store _ _ _ => true
  | .call c => match c.callee with
    | .builtin .append => true
    | .builtin .copy => true
    | _ => false
  | _ => false
def pureO : Op → Bool
  | .move _ => true
  | .assign _ => true
  | .extract _ _ => true
  | _ => false
/-- Does a mask meet a tail? -/
def meetsT (K : List Nat) (m : Nat) : Bool := (List.range K.length).any fun j => Nat.beq (at_ K j) 2 && m.testBit j
def kindL : List Oper → List Nat → Nat → List Nat → List Nat
  | [], _, _, K => K
  | o :: l, A, i, K => kindL l A (i + 1) (K ++ [match updO o.op || meetsT K (at_ A i) with
    | true => 2
    | false => match pureO o.op with
      | true => 0
      | false => 1])
def getI (ops : Array Oper) (A : List Nat) (rs : List (Nat × Res)) (get : Nat → Option SV) (i t : Nat) : Option SV :=
  match writerOf ops t with
  | some d => match (at_ A i).testBit d with
    | true => match look rs d with
      | some r => some r.val
      | none => none
    | false => match Nat.beq d i || (at_ A d).testBit i with
      | true => get t
      | false => none
  | none => get t
def heapI (nx : Nat) (rs : List (Nat × Res)) (hp : Nat → Option Blk) (L : Nat → Bool) (id : Nat) : Option Blk :=
  match Nat.blt id nx with
  | true => hp id
  | false => match L ((id - nx) / 4) with
    | true => match look rs ((id - nx) / 4) with
      | some r => r.new[(id - nx) % 4]?
      | none => none
    | false => none
def headOps (T : List (Nat × Ty)) (O : List (Nat × Ent)) (ops : Array Oper) (A : List Nat) (H : Nat → Hint) (s : St) : List Oper → Nat → List (Nat × Res) → Option (List (Nat × Res) × Asm)
  | [], _, rs => some (rs, .tt)
  | o :: l, i, rs =>
    match opRes T O ops (getI ops A rs s.get i) s.gl (heapI s.nx rs (look s.hp) (fun d => (at_ A i).testBit d)) (H i) (s.nx + 4 * i) (fun id => Nat.blt id s.nx || (at_ A i).testBit ((id - s.nx) / 4)) o with
    | some r => match Nat.ble r.new.length 4, r.upd with
      | true, [] => match headOps T O ops A H s l (i + 1) ((i, r) :: rs) with
        | some (rs', p) => some (rs', r.asm.and p)
        | none => none
      | _, _ => none
    | none => none
def putOne (ops : Array Oper) (rs : List (Nat × Res)) (i : Nat) (s : St) : St :=
  match look rs i with
  | some r => { tm := (match dstOf ops i with
      | some t => setNth (some r.val) s.tm t
      | none => s.tm), hp := newH s.hp (s.nx + 4 * i) r.new, nx := s.nx, gl := s.gl }
  | none => s
def putAll (ops : Array Oper) (rs : List (Nat × Res)) : List Nat → St → St
  | [], s => s
  | i :: l, s => putAll ops rs l (putOne ops rs i s)
def drawOps (T : List (Nat × Ty)) (O : List (Nat × Ent)) (l : List Oper) (H : Nat → Hint) (s : St) : Option (St × Asm) :=
  let ops := l.toArray
  let A := ancL l []
  let K := kindL l A 0 []
  let m := (Rg.headL ops K).length
  match Rg.checkB ops A K && (List.range ops.size).all (fun i => !(Nat.beq (at_ K i) 0) || (match ops[i]? with | some o => pureO o.op | none => true)) && Rg.dstB ops s.tm.length && (Rg.tailL ops K == (List.range ops.size).drop m) with
  | true => match headOps T O ops A H s (l.take m) 0 [] with
    | some (rs, p) =>
      let s1 := putAll ops rs (List.range m) s
      match seqOps T O ops H (l.drop m) m { s1 with nx := s.nx + 4 * m } with
      | some (s', q) => some (s', p.and q)
      | none => none
    | none => none
  | false => none

end Go.Proofs.Ytkoackalpcmhaaa.Am
