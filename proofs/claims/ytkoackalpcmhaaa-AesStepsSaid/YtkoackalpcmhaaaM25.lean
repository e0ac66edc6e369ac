/- The abstract machine: contracts out of other contracts; hints; bytes. Conditions: none. -/
import Derived.Test.YtkoackalpcmhaaaM24
import Derived.Test.YtkoackalpcmhaaaTy
namespace Go.Proofs.Ytkoackalpcmhaaa.Am
set_option linter.unusedVariables false
set_option linter.unusedSimpArgs false
open Go Go.RowKit

/-- A contract that says what another one says. -/
theorem EntOK.of {P : Program} {f : FuncId} {e e' : Ent} (h : EntOK P f e) (he : ∀ args G base r, e' args G base = some r → r.asm.holds → ∃ r0, e args G base = some r0 ∧ r0.asm.holds ∧ r0.val = r.val ∧ r0.new = r.new ∧ r0.upd = r.upd) : EntOK P f e' := by
  refine ⟨h.1, fun args G base res hr ha ρ D N M w hG hin hfr => ?_⟩
  obtain ⟨r0, h1, h2, h3, h4, h5⟩ := he args G base res hr ha
  refine (h.2 args G base r0 h1 h2 ρ D N M w hG hin (by rw [h4]; exact hfr)).mono fun e w' ⟨v, hv, ρ', hF⟩ => ⟨v, hv, ρ', ?_⟩
  have hap : appl G base r0 = appl G base res := by
    funext id; unfold appl; rw [h4, h5]
  exact ⟨hF.agree, by rw [← h3]; exact hF.val, by rw [← h4, ← hap]; exact hF.hr, hF.kept, by rw [← h4, ← h5]; exact hF.fresh⟩

def noH : Nat → Nat → Hint := fun _ _ => {}
/-- A hint at one place. -/
def atH (r i : Nat) (h : Hint) (H : Nat → Nat → Hint) : Nat → Nat → Hint := fun a b => match Nat.beq a r && Nat.beq b i with
  | true => h
  | false => H a b
def isB (b : Bool) : Hint := { is := some (ofV (.bool b)) }
def symH : Hint := { sym := true }
def e1I (k : IntKind) (F : Int → Int) : Ent := fun args _ _ => match args with
  | [.av (.one (.v (.int j z)))] => match Nat.beq (ik j) (ik k) with
    | true => some { val := ofV (.int k (F z)) }
    | false => none
  | _ => none
theorem ok_e1I {f : FuncId} {fn : Func} {k : IntKind} {F : Int → Int} (hf : Try.prog.funcs[f]? = some fn) (h2 : (fn.name == "runtime.NumGoroutine") = false) (h3 : fn.body.isSome = true) (h : ∀ (z : Int) (w : World), Calls Try.prog f #[.int k z] w fun e w' => e = .returned (.int k (F z)) ∧ Below w.heap.size w w') : EntOK Try.prog f (e1I k F) := by
  refine ⟨⟨fn, hf, h2, h3⟩, fun args G base res hr ha ρ D N M w hG hin hfr => ?_⟩
  unfold e1I at hr
  split at hr
  · rename_i j z
    split at hr
    · rename_i hk
      have := ik_inj hk
      subst this
      simp only [Option.some.injEq] at hr
      subst hr
      exact ent_val (h z w) hG rfl rfl rfl
    · cases hr
  · cases hr
/-! bytes, as the program reckons them -/
def bx (a b : Int) : Int := IntKind.u8.wrap (BitVec.ofInt IntKind.u8.bits a ^^^ BitVec.ofInt IntKind.u8.bits b).toNat
def ba (a b : Int) : Int := IntKind.u8.wrap (BitVec.ofInt IntKind.u8.bits a &&& BitVec.ofInt IntKind.u8.bits b).toNat
def bs (a : Int) (n : Nat) : Int := IntKind.u8.wrap (a * 2 ^ min n IntKind.u8.bits)
end Go.Proofs.Ytkoackalpcmhaaa.Am
