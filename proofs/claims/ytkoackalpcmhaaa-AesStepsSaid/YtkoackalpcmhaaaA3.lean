/- The cipher: words together, a word's turned bytes, a column mixed. Conditions: none. -/
import Derived.Test.YtkoackalpcmhaaaA2
import Derived.Test.YtkoackalpcmhaaaM27
namespace Go.Proofs.Ytkoackalpcmhaaa.Am
set_option linter.unusedVariables false
set_option linter.unusedSimpArgs false
open Go Go.RowKit

def g2 (l : List Int) (i : Nat) : Int := l.getD i 0
/-- Words together. -/
def wx (l : List Int) : Nat → List Int
  | 0 => [0, 0, 0, 0]
  | n + 1 => let o := wx l n; [bx (g2 o 0) (g2 l (4 * n)), bx (g2 o 1) (g2 l (4 * n + 1)), bx (g2 o 2) (g2 l (4 * n + 2)), bx (g2 o 3) (g2 l (4 * n + 3))]
noncomputable def withI : Ent := inl tyT [] noH [(3, 9), (6, 5)] 1000 Try.f22 []
theorem with_ent0 : EntOK Try.prog 22 withI := inl_ok tyT_ok (ook_of (l := []) trivial) mixed_ Try.func22 (by kernel_rfl) (by kernel_rfl) []
def valR (r : Option Res) : Option (SV × List Blk × List (Nat × Option Blk) × List Prop) := match r with
  | some r => some (r.val, r.new, r.upd, r.asm.list [])
  | none => none
theorem with2 (a b c d e f g h : Int) (base : Nat) : valR (withI [.av (.one (.s 0 0 2 2))] (fun i => if i = 0 then some ⟨2, 50, [.arr .u8 [a, b, c, d, e, f, g, h]]⟩ else none) base) = some (.av (.one (.arr .u8 (wx [a, b, c, d, e, f, g, h] 2))), [], [], []) := by kernel_rfl
theorem with5 (a0 a1 a2 a3 b0 b1 b2 b3 c0 c1 c2 c3 d0 d1 d2 d3 e0 e1 e2 e3 : Int) (base : Nat) : valR (withI [.av (.one (.s 0 0 5 5))] (fun i => if i = 0 then some ⟨2, 50, [.arr .u8 [a0, a1, a2, a3, b0, b1, b2, b3, c0, c1, c2, c3, d0, d1, d2, d3, e0, e1, e2, e3]]⟩ else none) base) = some (.av (.one (.arr .u8 (wx [a0, a1, a2, a3, b0, b1, b2, b3, c0, c1, c2, c3, d0, d1, d2, d3, e0, e1, e2, e3] 5))), [], [], []) := by kernel_rfl
end Go.Proofs.Ytkoackalpcmhaaa.Am
