/- The cipher: Next. Conditions: none. -/
import Derived.Test.YtkoackalpcmhaaaA7
namespace Go.Proofs.Ytkoackalpcmhaaa.Am
set_option linter.unusedVariables false
set_option linter.unusedSimpArgs false
open Go Go.RowKit

noncomputable def xTodo : List AI := match Try.f16.body with
  | some c => todoOf (arun tyT [] noH [] 1000 [.code c] (start [.av (.one (.arr .u8 (keyL 16 fun _ => 0)))] 21 [] 0 []))
  | none => []
noncomputable def xX : Code := loopOf xTodo
noncomputable def xK : List AI := restOf xTodo
def xS (bf : Nat → Int) (i : Nat) : St := { tm := tmL 21 [(1, .av (.one (.p 0 0))), (2, .av (.one (.p 1 0))), (5, ofV (.int .i64 i))], hp := [(0, ⟨0, 23, [.arr .u8 (keyL 16 bf)]⟩), (1, ⟨0, 23, [.arr .u8 (List.replicate 16 0)]⟩)], nx := 2, gl := [] }
def inc (z : Int) : Int := IntKind.u8.wrap (z + 1)
def incAt (bf : Nat → Int) (i j : Nat) : Int := if j = 15 - i then inc (bf j) else bf j
def xEnd (bf : Nat → Int) : St := { tm := tmL 21 [(2, .av (.one (.p 0 0)))], hp := [(0, ⟨0, 23, [.arr .u8 (keyL 16 bf)]⟩)], nx := 1, gl := [] }
def isA (x b : Bool) : Prop := ∀ ρ : Nat → Loc, (ofV (.bool x)).conc ρ = (ofV (.bool b)).conc ρ
theorem x_start (bf : Nat → Int) {c : Code} (hc : Try.f16.body = some c) : runN tyT [] noH [] 1000 2 [] [1, 2, 5] [.code c] (start [.av (.one (.arr .u8 (keyL 16 bf)))] 21 [] 0 []) = some (.code (.loop xX) :: xK, xS bf 0, []) := by
  have : ∀ d, Try.f16.body = d → (match d with | some c => runN tyT [] noH [] 1000 2 [] [1, 2, 5] [.code c] (start [.av (.one (.arr .u8 (keyL 16 bf)))] 21 [] 0 []) | none => none) = some (.code (.loop xX) :: xK, xS bf 0, []) := by
    intro d hd
    subst hd
    kernel_rfl
  exact this _ hc
theorem x_go0 (bf : Nat → Int) (n : Nat) : runN tyT [] (atH 6 3 (isB false) noH) [] 1000 2 [] [1, 2, 5] (.code xX :: .hd n xX :: xK) (xS bf 0) = some (.hd n xX :: xK, xS (incAt bf 0) 1, [isA (inc (bf 15) != 0) false]) := by
  kernel_rfl
theorem x_stop0 (bf : Nat → Int) (n : Nat) : runN tyT [] (atH 6 3 (isB true) noH) [] 1000 0 [1] [2] (.code xX :: .hd n xX :: xK) (xS bf 0) = some ([.fin], xEnd (incAt bf 0), [isA (inc (bf 15) != 0) true]) := by
  kernel_rfl
theorem x_go1 (bf : Nat → Int) (n : Nat) : runN tyT [] (atH 6 3 (isB false) noH) [] 1000 2 [] [1, 2, 5] (.code xX :: .hd n xX :: xK) (xS bf 1) = some (.hd n xX :: xK, xS (incAt bf 1) 2, [isA (inc (bf 14) != 0) false]) := by
  kernel_rfl
theorem x_stop1 (bf : Nat → Int) (n : Nat) : runN tyT [] (atH 6 3 (isB true) noH) [] 1000 0 [1] [2] (.code xX :: .hd n xX :: xK) (xS bf 1) = some ([.fin], xEnd (incAt bf 1), [isA (inc (bf 14) != 0) true]) := by
  kernel_rfl
theorem x_go2 (bf : Nat → Int) (n : Nat) : runN tyT [] (atH 6 3 (isB false) noH) [] 1000 2 [] [1, 2, 5] (.code xX :: .hd n xX :: xK) (xS bf 2) = some (.hd n xX :: xK, xS (incAt bf 2) 3, [isA (inc (bf 13) != 0) false]) := by
  kernel_rfl
theorem x_stop2 (bf : Nat → Int) (n : Nat) : runN tyT [] (atH 6 3 (isB true) noH) [] 1000 0 [1] [2] (.code xX :: .hd n xX :: xK) (xS bf 2) = some ([.fin], xEnd (incAt bf 2), [isA (inc (bf 13) != 0) true]) := by
  kernel_rfl
theorem x_go3 (bf : Nat → Int) (n : Nat) : runN tyT [] (atH 6 3 (isB false) noH) [] 1000 2 [] [1, 2, 5] (.code xX :: .hd n xX :: xK) (xS bf 3) = some (.hd n xX :: xK, xS (incAt bf 3) 4, [isA (inc (bf 12) != 0) false]) := by
  kernel_rfl
theorem x_stop3 (bf : Nat → Int) (n : Nat) : runN tyT [] (atH 6 3 (isB true) noH) [] 1000 0 [1] [2] (.code xX :: .hd n xX :: xK) (xS bf 3) = some ([.fin], xEnd (incAt bf 3), [isA (inc (bf 12) != 0) true]) := by
  kernel_rfl
theorem x_go4 (bf : Nat → Int) (n : Nat) : runN tyT [] (atH 6 3 (isB false) noH) [] 1000 2 [] [1, 2, 5] (.code xX :: .hd n xX :: xK) (xS bf 4) = some (.hd n xX :: xK, xS (incAt bf 4) 5, [isA (inc (bf 11) != 0) false]) := by
  kernel_rfl
theorem x_stop4 (bf : Nat → Int) (n : Nat) : runN tyT [] (atH 6 3 (isB true) noH) [] 1000 0 [1] [2] (.code xX :: .hd n xX :: xK) (xS bf 4) = some ([.fin], xEnd (incAt bf 4), [isA (inc (bf 11) != 0) true]) := by
  kernel_rfl
theorem x_go5 (bf : Nat → Int) (n : Nat) : runN tyT [] (atH 6 3 (isB false) noH) [] 1000 2 [] [1, 2, 5] (.code xX :: .hd n xX :: xK) (xS bf 5) = some (.hd n xX :: xK, xS (incAt bf 5) 6, [isA (inc (bf 10) != 0) false]) := by
  kernel_rfl
theorem x_stop5 (bf : Nat → Int) (n : Nat) : runN tyT [] (atH 6 3 (isB true) noH) [] 1000 0 [1] [2] (.code xX :: .hd n xX :: xK) (xS bf 5) = some ([.fin], xEnd (incAt bf 5), [isA (inc (bf 10) != 0) true]) := by
  kernel_rfl
theorem x_go6 (bf : Nat → Int) (n : Nat) : runN tyT [] (atH 6 3 (isB false) noH) [] 1000 2 [] [1, 2, 5] (.code xX :: .hd n xX :: xK) (xS bf 6) = some (.hd n xX :: xK, xS (incAt bf 6) 7, [isA (inc (bf 9) != 0) false]) := by
  kernel_rfl
theorem x_stop6 (bf : Nat → Int) (n : Nat) : runN tyT [] (atH 6 3 (isB true) noH) [] 1000 0 [1] [2] (.code xX :: .hd n xX :: xK) (xS bf 6) = some ([.fin], xEnd (incAt bf 6), [isA (inc (bf 9) != 0) true]) := by
  kernel_rfl
theorem x_go7 (bf : Nat → Int) (n : Nat) : runN tyT [] (atH 6 3 (isB false) noH) [] 1000 2 [] [1, 2, 5] (.code xX :: .hd n xX :: xK) (xS bf 7) = some (.hd n xX :: xK, xS (incAt bf 7) 8, [isA (inc (bf 8) != 0) false]) := by
  kernel_rfl
theorem x_stop7 (bf : Nat → Int) (n : Nat) : runN tyT [] (atH 6 3 (isB true) noH) [] 1000 0 [1] [2] (.code xX :: .hd n xX :: xK) (xS bf 7) = some ([.fin], xEnd (incAt bf 7), [isA (inc (bf 8) != 0) true]) := by
  kernel_rfl
theorem x_go8 (bf : Nat → Int) (n : Nat) : runN tyT [] (atH 6 3 (isB false) noH) [] 1000 2 [] [1, 2, 5] (.code xX :: .hd n xX :: xK) (xS bf 8) = some (.hd n xX :: xK, xS (incAt bf 8) 9, [isA (inc (bf 7) != 0) false]) := by
  kernel_rfl
theorem x_stop8 (bf : Nat → Int) (n : Nat) : runN tyT [] (atH 6 3 (isB true) noH) [] 1000 0 [1] [2] (.code xX :: .hd n xX :: xK) (xS bf 8) = some ([.fin], xEnd (incAt bf 8), [isA (inc (bf 7) != 0) true]) := by
  kernel_rfl
theorem x_go9 (bf : Nat → Int) (n : Nat) : runN tyT [] (atH 6 3 (isB false) noH) [] 1000 2 [] [1, 2, 5] (.code xX :: .hd n xX :: xK) (xS bf 9) = some (.hd n xX :: xK, xS (incAt bf 9) 10, [isA (inc (bf 6) != 0) false]) := by
  kernel_rfl
theorem x_stop9 (bf : Nat → Int) (n : Nat) : runN tyT [] (atH 6 3 (isB true) noH) [] 1000 0 [1] [2] (.code xX :: .hd n xX :: xK) (xS bf 9) = some ([.fin], xEnd (incAt bf 9), [isA (inc (bf 6) != 0) true]) := by
  kernel_rfl
theorem x_go10 (bf : Nat → Int) (n : Nat) : runN tyT [] (atH 6 3 (isB false) noH) [] 1000 2 [] [1, 2, 5] (.code xX :: .hd n xX :: xK) (xS bf 10) = some (.hd n xX :: xK, xS (incAt bf 10) 11, [isA (inc (bf 5) != 0) false]) := by
  kernel_rfl
theorem x_stop10 (bf : Nat → Int) (n : Nat) : runN tyT [] (atH 6 3 (isB true) noH) [] 1000 0 [1] [2] (.code xX :: .hd n xX :: xK) (xS bf 10) = some ([.fin], xEnd (incAt bf 10), [isA (inc (bf 5) != 0) true]) := by
  kernel_rfl
theorem x_go11 (bf : Nat → Int) (n : Nat) : runN tyT [] (atH 6 3 (isB false) noH) [] 1000 2 [] [1, 2, 5] (.code xX :: .hd n xX :: xK) (xS bf 11) = some (.hd n xX :: xK, xS (incAt bf 11) 12, [isA (inc (bf 4) != 0) false]) := by
  kernel_rfl
theorem x_stop11 (bf : Nat → Int) (n : Nat) : runN tyT [] (atH 6 3 (isB true) noH) [] 1000 0 [1] [2] (.code xX :: .hd n xX :: xK) (xS bf 11) = some ([.fin], xEnd (incAt bf 11), [isA (inc (bf 4) != 0) true]) := by
  kernel_rfl
theorem x_go12 (bf : Nat → Int) (n : Nat) : runN tyT [] (atH 6 3 (isB false) noH) [] 1000 2 [] [1, 2, 5] (.code xX :: .hd n xX :: xK) (xS bf 12) = some (.hd n xX :: xK, xS (incAt bf 12) 13, [isA (inc (bf 3) != 0) false]) := by
  kernel_rfl
theorem x_stop12 (bf : Nat → Int) (n : Nat) : runN tyT [] (atH 6 3 (isB true) noH) [] 1000 0 [1] [2] (.code xX :: .hd n xX :: xK) (xS bf 12) = some ([.fin], xEnd (incAt bf 12), [isA (inc (bf 3) != 0) true]) := by
  kernel_rfl
theorem x_go13 (bf : Nat → Int) (n : Nat) : runN tyT [] (atH 6 3 (isB false) noH) [] 1000 2 [] [1, 2, 5] (.code xX :: .hd n xX :: xK) (xS bf 13) = some (.hd n xX :: xK, xS (incAt bf 13) 14, [isA (inc (bf 2) != 0) false]) := by
  kernel_rfl
theorem x_stop13 (bf : Nat → Int) (n : Nat) : runN tyT [] (atH 6 3 (isB true) noH) [] 1000 0 [1] [2] (.code xX :: .hd n xX :: xK) (xS bf 13) = some ([.fin], xEnd (incAt bf 13), [isA (inc (bf 2) != 0) true]) := by
  kernel_rfl
theorem x_go14 (bf : Nat → Int) (n : Nat) : runN tyT [] (atH 6 3 (isB false) noH) [] 1000 2 [] [1, 2, 5] (.code xX :: .hd n xX :: xK) (xS bf 14) = some (.hd n xX :: xK, xS (incAt bf 14) 15, [isA (inc (bf 1) != 0) false]) := by
  kernel_rfl
theorem x_stop14 (bf : Nat → Int) (n : Nat) : runN tyT [] (atH 6 3 (isB true) noH) [] 1000 0 [1] [2] (.code xX :: .hd n xX :: xK) (xS bf 14) = some ([.fin], xEnd (incAt bf 14), [isA (inc (bf 1) != 0) true]) := by
  kernel_rfl
theorem x_go15 (bf : Nat → Int) (n : Nat) : runN tyT [] (atH 6 3 (isB false) noH) [] 1000 2 [] [1, 2, 5] (.code xX :: .hd n xX :: xK) (xS bf 15) = some (.hd n xX :: xK, xS (incAt bf 15) 16, [isA (inc (bf 0) != 0) false]) := by
  kernel_rfl
theorem x_stop15 (bf : Nat → Int) (n : Nat) : runN tyT [] (atH 6 3 (isB true) noH) [] 1000 0 [1] [2] (.code xX :: .hd n xX :: xK) (xS bf 15) = some ([.fin], xEnd (incAt bf 15), [isA (inc (bf 0) != 0) true]) := by
  kernel_rfl
theorem x_end (bf : Nat → Int) (n : Nat) : runN tyT [] noH [] 1000 0 [1] [2] (.code xX :: .hd n xX :: xK) (xS bf 16) = some ([.fin], xEnd bf, []) := by
  kernel_rfl
theorem nil_ok : OOK Try.prog [] := ook_of (l := []) trivial
theorem x_go (bf : Nat → Int) (n : Nat) : ∀ i, i < 16 → (inc (bf (15 - i)) != 0) = false → Reaches Try.prog 0 (.hd (n + 1) xX :: xK) (xS bf i) (.hd n xX :: xK) (xS (incAt bf i) (i + 1))
  | 0, _, h => Reaches.round (reach_run tyT_ok nil_ok mixed_ (x_go0 bf n) ⟨fun ρ => by rw [show (inc (bf 15) != 0) = false from h], trivial⟩ rfl)
  | 1, _, h => Reaches.round (reach_run tyT_ok nil_ok mixed_ (x_go1 bf n) ⟨fun ρ => by rw [show (inc (bf 14) != 0) = false from h], trivial⟩ rfl)
  | 2, _, h => Reaches.round (reach_run tyT_ok nil_ok mixed_ (x_go2 bf n) ⟨fun ρ => by rw [show (inc (bf 13) != 0) = false from h], trivial⟩ rfl)
  | 3, _, h => Reaches.round (reach_run tyT_ok nil_ok mixed_ (x_go3 bf n) ⟨fun ρ => by rw [show (inc (bf 12) != 0) = false from h], trivial⟩ rfl)
  | 4, _, h => Reaches.round (reach_run tyT_ok nil_ok mixed_ (x_go4 bf n) ⟨fun ρ => by rw [show (inc (bf 11) != 0) = false from h], trivial⟩ rfl)
  | 5, _, h => Reaches.round (reach_run tyT_ok nil_ok mixed_ (x_go5 bf n) ⟨fun ρ => by rw [show (inc (bf 10) != 0) = false from h], trivial⟩ rfl)
  | 6, _, h => Reaches.round (reach_run tyT_ok nil_ok mixed_ (x_go6 bf n) ⟨fun ρ => by rw [show (inc (bf 9) != 0) = false from h], trivial⟩ rfl)
  | 7, _, h => Reaches.round (reach_run tyT_ok nil_ok mixed_ (x_go7 bf n) ⟨fun ρ => by rw [show (inc (bf 8) != 0) = false from h], trivial⟩ rfl)
  | 8, _, h => Reaches.round (reach_run tyT_ok nil_ok mixed_ (x_go8 bf n) ⟨fun ρ => by rw [show (inc (bf 7) != 0) = false from h], trivial⟩ rfl)
  | 9, _, h => Reaches.round (reach_run tyT_ok nil_ok mixed_ (x_go9 bf n) ⟨fun ρ => by rw [show (inc (bf 6) != 0) = false from h], trivial⟩ rfl)
  | 10, _, h => Reaches.round (reach_run tyT_ok nil_ok mixed_ (x_go10 bf n) ⟨fun ρ => by rw [show (inc (bf 5) != 0) = false from h], trivial⟩ rfl)
  | 11, _, h => Reaches.round (reach_run tyT_ok nil_ok mixed_ (x_go11 bf n) ⟨fun ρ => by rw [show (inc (bf 4) != 0) = false from h], trivial⟩ rfl)
  | 12, _, h => Reaches.round (reach_run tyT_ok nil_ok mixed_ (x_go12 bf n) ⟨fun ρ => by rw [show (inc (bf 3) != 0) = false from h], trivial⟩ rfl)
  | 13, _, h => Reaches.round (reach_run tyT_ok nil_ok mixed_ (x_go13 bf n) ⟨fun ρ => by rw [show (inc (bf 2) != 0) = false from h], trivial⟩ rfl)
  | 14, _, h => Reaches.round (reach_run tyT_ok nil_ok mixed_ (x_go14 bf n) ⟨fun ρ => by rw [show (inc (bf 1) != 0) = false from h], trivial⟩ rfl)
  | 15, _, h => Reaches.round (reach_run tyT_ok nil_ok mixed_ (x_go15 bf n) ⟨fun ρ => by rw [show (inc (bf 0) != 0) = false from h], trivial⟩ rfl)
  | i + 16, h, _ => by omega
theorem x_stop (bf : Nat → Int) (n : Nat) : ∀ i, i < 16 → (inc (bf (15 - i)) != 0) = true → Reaches Try.prog 0 (.hd (n + 1) xX :: xK) (xS bf i) [.fin] (xEnd (incAt bf i))
  | 0, _, h => Reaches.round (reach_run tyT_ok nil_ok mixed_ (x_stop0 bf n) ⟨fun ρ => by rw [show (inc (bf 15) != 0) = true from h], trivial⟩ rfl)
  | 1, _, h => Reaches.round (reach_run tyT_ok nil_ok mixed_ (x_stop1 bf n) ⟨fun ρ => by rw [show (inc (bf 14) != 0) = true from h], trivial⟩ rfl)
  | 2, _, h => Reaches.round (reach_run tyT_ok nil_ok mixed_ (x_stop2 bf n) ⟨fun ρ => by rw [show (inc (bf 13) != 0) = true from h], trivial⟩ rfl)
  | 3, _, h => Reaches.round (reach_run tyT_ok nil_ok mixed_ (x_stop3 bf n) ⟨fun ρ => by rw [show (inc (bf 12) != 0) = true from h], trivial⟩ rfl)
  | 4, _, h => Reaches.round (reach_run tyT_ok nil_ok mixed_ (x_stop4 bf n) ⟨fun ρ => by rw [show (inc (bf 11) != 0) = true from h], trivial⟩ rfl)
  | 5, _, h => Reaches.round (reach_run tyT_ok nil_ok mixed_ (x_stop5 bf n) ⟨fun ρ => by rw [show (inc (bf 10) != 0) = true from h], trivial⟩ rfl)
  | 6, _, h => Reaches.round (reach_run tyT_ok nil_ok mixed_ (x_stop6 bf n) ⟨fun ρ => by rw [show (inc (bf 9) != 0) = true from h], trivial⟩ rfl)
  | 7, _, h => Reaches.round (reach_run tyT_ok nil_ok mixed_ (x_stop7 bf n) ⟨fun ρ => by rw [show (inc (bf 8) != 0) = true from h], trivial⟩ rfl)
  | 8, _, h => Reaches.round (reach_run tyT_ok nil_ok mixed_ (x_stop8 bf n) ⟨fun ρ => by rw [show (inc (bf 7) != 0) = true from h], trivial⟩ rfl)
  | 9, _, h => Reaches.round (reach_run tyT_ok nil_ok mixed_ (x_stop9 bf n) ⟨fun ρ => by rw [show (inc (bf 6) != 0) = true from h], trivial⟩ rfl)
  | 10, _, h => Reaches.round (reach_run tyT_ok nil_ok mixed_ (x_stop10 bf n) ⟨fun ρ => by rw [show (inc (bf 5) != 0) = true from h], trivial⟩ rfl)
  | 11, _, h => Reaches.round (reach_run tyT_ok nil_ok mixed_ (x_stop11 bf n) ⟨fun ρ => by rw [show (inc (bf 4) != 0) = true from h], trivial⟩ rfl)
  | 12, _, h => Reaches.round (reach_run tyT_ok nil_ok mixed_ (x_stop12 bf n) ⟨fun ρ => by rw [show (inc (bf 3) != 0) = true from h], trivial⟩ rfl)
  | 13, _, h => Reaches.round (reach_run tyT_ok nil_ok mixed_ (x_stop13 bf n) ⟨fun ρ => by rw [show (inc (bf 2) != 0) = true from h], trivial⟩ rfl)
  | 14, _, h => Reaches.round (reach_run tyT_ok nil_ok mixed_ (x_stop14 bf n) ⟨fun ρ => by rw [show (inc (bf 1) != 0) = true from h], trivial⟩ rfl)
  | 15, _, h => Reaches.round (reach_run tyT_ok nil_ok mixed_ (x_stop15 bf n) ⟨fun ρ => by rw [show (inc (bf 0) != 0) = true from h], trivial⟩ rfl)
  | i + 16, h, _ => by omega
/-- One more, from byte 15 - i on. -/
def nextG : Nat → Nat → (Nat → Int) → (Nat → Int)
  | 0, _, bf => bf
  | n + 1, i, bf => if (inc (bf (15 - i)) != 0) = true then incAt bf i else nextG n (i + 1) (incAt bf i)
theorem x_rounds : ∀ (n i : Nat) (bf : Nat → Int), n + i = 16 → Reaches Try.prog 0 (.hd (n + 1) xX :: xK) (xS bf i) [.fin] (xEnd (nextG n i bf))
  | 0, i, bf, h => by
    have : i = 16 := by omega
    subst this
    exact Reaches.round (reach_run tyT_ok nil_ok mixed_ (x_end bf 0) trivial rfl)
  | n + 1, i, bf, h => by
    unfold nextG
    cases hc : (inc (bf (15 - i)) != 0) with
    | true => rw [if_pos rfl]; exact x_stop bf (n + 1) i (by omega) hc
    | false =>
      rw [if_neg (by decide)]
      exact (x_go bf (n + 1) i (by omega) hc).trans (x_rounds n (i + 1) (incAt bf i) (by omega))
theorem x_reach (bf : Nat → Int) {c : Code} (hc : Try.f16.body = some c) : Reaches Try.prog 0 [.code c] (start [.av (.one (.arr .u8 (keyL 16 bf)))] 21 [] 0 []) [.fin] (xEnd (nextG 16 0 bf)) :=
  (reach_run tyT_ok nil_ok mixed_ (x_start bf hc) trivial rfl).trans (Reaches.loop 17 (x_rounds 16 0 bf rfl))
def nextL (bs : List Int) : List Int := keyL 16 (nextG 16 0 (g2 bs))
/-- A function of 16 bytes to 16 bytes. -/
def e16 (F : List Int → List Int) : Ent := fun args _ _ => match args with
  | [.av b] => match intsOf .u8 b.segs, aggB b with
    | some bs, true => match Nat.beq bs.length 16 with
      | true => some { val := .av (.one (.arr .u8 (F bs))) }
      | false => none
    | _, _ => none
  | _ => none
theorem ok_e16 {f : FuncId} {fn : Func} {F : List Int → List Int} (hf : Try.prog.funcs[f]? = some fn) (h2 : (fn.name == "runtime.NumGoroutine") = false) (h3 : fn.body.isSome = true) (h : ∀ (bs : List Int), bs.length = 16 → ∀ (ρ : Nat → Loc) (w : World), Calls Try.prog f ([SV.av (.one (.arr .u8 bs))].map (SV.conc ρ)).toArray w fun e w' => e = .returned (SV.conc ρ (.av (.one (.arr .u8 (F bs))))) ∧ Below w.heap.size w w') : EntOK Try.prog f (e16 F) := by
  refine ⟨⟨fn, hf, h2, h3⟩, fun args G base res hr ha ρ D N M w hG hin hfr => ?_⟩
  unfold e16 at hr
  split at hr
  · rename_i b
    split at hr
    · rename_i bs hbs hagg
      split at hr
      · rename_i hl
        simp only [Option.some.injEq] at hr
        subst hr
        have := h bs (Nat.eq_of_beq_eq_true hl) ρ w
        have e1 : SV.conc ρ (.av b) = SV.conc ρ (.av (.one (.arr .u8 bs))) := by
          rw [conc_av, aggB_conc ρ hagg, intsOf_spec ρ _ _ hbs]
          rfl
        simp only [List.map_cons, List.map_nil] at this ⊢
        rw [e1]
        exact ent_val this hG rfl rfl rfl
      · cases hr
    · cases hr
  · cases hr
theorem hr_none (w : World) : HR (fun _ => ⟨none, 0⟩) (· < 0) w.heap.size [] (look []) w := ⟨Nat.le_refl _, fun _ _ h => (by cases h), fun _ _ _ h => (by cases h), fun _ _ _ h => (by cases h), fun _ _ _ _ _ _ h => (by cases h)⟩
theorem next_ent : EntOK Try.prog 16 (e16 nextL) := by
  refine ok_e16 Try.func16 (by kernel_rfl) (by kernel_rfl) fun bs hl ρ w => ?_
  obtain ⟨c, hc⟩ : ∃ c, Try.f16.body = some c := Option.isSome_iff_exists.1 (by kernel_rfl)
  have := reach_val tyT_ok Try.func16 hc (avs := [.av (.one (.arr .u8 (keyL 16 (g2 bs))))]) (.inr rfl) (x_reach (g2 bs) hc) (v := .av (.one (.arr .u8 (nextL bs)))) (by kernel_rfl) (by kernel_rfl) (by kernel_rfl) (fun s hs => by
    simp only [List.mem_cons, List.not_mem_nil, or_false] at hs
    subst hs
    exact fun s hs => (by simp [AV.segs] at hs; subst hs; trivial)) (hr_none w) ρ
  rw [keyL_g2 hl] at this
  exact this
end Go.Proofs.Ytkoackalpcmhaaa.Am
