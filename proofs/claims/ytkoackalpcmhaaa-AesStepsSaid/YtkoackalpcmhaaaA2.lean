/- The cipher: the turned bytes, made. Conditions: none. -/
import Derived.Test.YtkoackalpcmhaaaA1
import Derived.Test.YtkoackalpcmhaaaM26
namespace Go.Proofs.Ytkoackalpcmhaaa.Am
set_option linter.unusedVariables false
set_option linter.unusedSimpArgs false
open Go Go.RowKit

def sbox : List Int := [99, 124, 119, 123, 242, 107, 111, 197, 48, 1, 103, 43, 254, 215, 171, 118, 202, 130, 201, 125, 250, 89, 71, 240, 173, 212, 162, 175, 156, 164, 114, 192, 183, 253, 147, 38, 54, 63, 247, 204, 52, 165, 229, 241, 113, 216, 49, 21, 4, 199, 35, 195, 24, 150, 5, 154, 7, 18, 128, 226, 235, 39, 178, 117, 9, 131, 44, 26, 27, 110, 90, 160, 82, 59, 214, 179, 41, 227, 47, 132, 83, 209, 0, 237, 32, 252, 177, 91, 106, 203, 190, 57, 74, 76, 88, 207, 208, 239, 170, 251, 67, 77, 51, 133, 69, 249, 2, 127, 80, 60, 159, 168, 81, 163, 64, 143, 146, 157, 56, 245, 188, 182, 218, 33, 16, 255, 243, 210, 205, 12, 19, 236, 95, 151, 68, 23, 196, 167, 126, 61, 100, 93, 25, 115, 96, 129, 79, 220, 34, 42, 144, 136, 70, 238, 184, 20, 222, 94, 11, 219, 224, 50, 58, 10, 73, 6, 36, 92, 194, 211, 172, 98, 145, 149, 228, 121, 231, 200, 55, 109, 141, 213, 78, 169, 108, 86, 244, 234, 101, 122, 174, 8, 186, 120, 37, 46, 28, 166, 180, 198, 232, 221, 116, 31, 75, 189, 139, 138, 112, 62, 181, 102, 72, 3, 246, 14, 97, 53, 87, 185, 134, 193, 29, 158, 225, 248, 152, 17, 105, 217, 142, 148, 155, 30, 135, 233, 206, 85, 40, 223, 140, 161, 137, 13, 191, 230, 66, 104, 65, 153, 45, 15, 176, 84, 187, 22]
noncomputable def rotE : Ent := inl tyT [] noH [] 100 Try.f31 []
theorem rot_ent : EntOK Try.prog 31 rotE := inl_ok tyT_ok (ook_of (l := []) trivial) mixed_ Try.func31 (by kernel_rfl) (by kernel_rfl) []
def rotN (n : Int) : Int := ((BitVec.ofInt IntKind.u64.bits (IntKind.u64.wrap n) &&& BitVec.ofInt IntKind.u64.bits 7).toNat : Int)
def rt (z : Int) (n : Nat) : Int := IntKind.u8.wrap (BitVec.ofInt IntKind.u8.bits (IntKind.u8.wrap (z * 2 ^ min n IntKind.u8.bits)) ||| BitVec.ofInt IntKind.u8.bits (z.fdiv (2 ^ min (8 - n) IntKind.u8.bits))).toNat

noncomputable def tO : List (Nat × Ent) := [(24, e1I .u8 tw), (31, rotE)]
theorem tO_ok : OOK Try.prog tO := ook_of ⟨twice_ent, rot_ent, trivial⟩
noncomputable def tTodo : List AI := match Try.f21.body with
  | some c => todoOf (arun tyT tO noH [] 1000 [.code c] (start [] 44 [] 0 []))
  | none => []
noncomputable def tX : Code := loopOf tTodo
noncomputable def tK : List AI := restOf tTodo
/-- The state at the loop's head. -/
def tS (p q : Int) (zs : List Int) : St := { tm := tmL 44 [(1, .av (.one (.p 0 0))), (2, ofV (.int .u8 p)), (3, ofV (.int .u8 q))], hp := [(0, ⟨0, 66, [.arr .u8 zs]⟩)], nx := 1, gl := [] }
theorem t_start {c : Code} (hc : Try.f21.body = some c) : runN tyT tO noH [] 1000 0 [0] [1, 2, 3] [.code c] (start [] 44 [] 0 []) = some (.code (.loop tX) :: tK, tS 1 1 (List.replicate 256 0), []) := by
  have : ∀ d, Try.f21.body = d → (match d with | some c => runN tyT tO noH [] 1000 0 [0] [1, 2, 3] [.code c] (start [] 44 [] 0 []) | none => none) = some (.code (.loop tX) :: tK, tS 1 1 (List.replicate 256 0), []) := by
    intro d hd
    subst hd
    kernel_rfl
  have h := this _ hc
  exact h
def q3 (q : Int) : Int := let a := bx q (bs q 1); let b := bx a (bs a 2); bx b (bs b 4)
def q4 (q : Int) : Int := if (ba (q3 q) 128 != 0) = true then bx (q3 q) 9 else q3 q
def tv (q : Int) : Int := bx (bx (bx (bx (bx q (rt q 1)) (rt q 2)) (rt q 3)) (rt q 4)) 99
def tH (b e : Bool) : Nat → Nat → Hint := atH 7 2 (isB b) (atH 10 1 (isB e) (atH 9 15 symH (atH 9 16 symH (atH 11 1 symH noH))))
def isAsm (x b : Bool) : Prop := ∀ ρ : Nat → Loc, (ofV (.bool x)).conc ρ = (ofV (.bool b)).conc ρ
def tP (p q : Int) (zs : List Int) (b e : Bool) : List Prop := [isAsm (ba (q3 q) 128 != 0) b, 0 ≤ p ∧ p.toNat ≤ 255, p.toNat < zs.length, isAsm (p == 1) e]
theorem t_round1 (n : Nat) (p q : Int) (zs : List Int) : runN tyT tO (tH true false) [] 1000 1 [] [1, 2, 3] (.code tX :: .hd n tX :: tK) (tS p q zs) = some (.hd n tX :: tK, tS (bx p (tw p)) (bx (q3 q) 9) (zs.set (bx p (tw p)).toNat (tv (bx (q3 q) 9))), tP (bx p (tw p)) q zs true false) := by
  kernel_rfl
theorem t_round2 (n : Nat) (p q : Int) (zs : List Int) : runN tyT tO (tH false false) [] 1000 1 [] [1, 2, 3] (.code tX :: .hd n tX :: tK) (tS p q zs) = some (.hd n tX :: tK, tS (bx p (tw p)) (q3 q) (zs.set (bx p (tw p)).toNat (tv (q3 q))), tP (bx p (tw p)) q zs false false) := by
  kernel_rfl
theorem t_last (n : Nat) (p q : Int) (zs : List Int) : runN tyT tO (tH false true) [] 1000 1 [] [0] (.code tX :: .hd n tX :: tK) (tS p q zs) = some ([.fin], { tm := tmL 44 [(0, .av (.one (.p 0 0)))], hp := [(0, ⟨0, 66, [.arr .u8 ((zs.set (bx p (tw p)).toNat (tv (q3 q))).set 0 99)]⟩)], nx := 1, gl := [] }, tP (bx p (tw p)) q zs false true ++ [0 < (zs.set (bx p (tw p)).toNat (tv (q3 q))).length]) := by
  kernel_rfl
/-- So many rounds. -/
def tRun : Nat → Int → Int → List Int → Option (Int × Int × List Int)
  | 0, p, q, zs => some (p, q, zs)
  | n + 1, p, q, zs => match decide (0 ≤ bx p (tw p)), Nat.ble (bx p (tw p)).toNat 255, Nat.blt (bx p (tw p)).toNat zs.length, bx p (tw p) == 1 with
    | true, true, true, false => tRun n (bx p (tw p)) (q4 q) (zs.set (bx p (tw p)).toNat (tv (q4 q)))
    | _, _, _, _ => none
theorem t_rounds : ∀ (n m : Nat) (p q : Int) (zs : List Int) {p' q' : Int} {zs' : List Int}, tRun n p q zs = some (p', q', zs') → Reaches Try.prog 0 (.hd (m + n) tX :: tK) (tS p q zs) (.hd m tX :: tK) (tS p' q' zs')
  | 0, m, p, q, zs, p', q', zs', h => by
    simp only [tRun, Option.some.injEq, Prod.mk.injEq] at h
    obtain ⟨rfl, rfl, rfl⟩ := h
    exact Reaches.refl
  | n + 1, m, p, q, zs, p', q', zs', h => by
    unfold tRun at h
    split at h
    · rename_i h1 h2 h3 h4
      have h1 := of_decide_eq_true h1
      have h2 := Nat.le_of_ble_eq_true h2
      have h3 : (bx p (tw p)).toNat < zs.length := Nat.le_of_ble_eq_true h3
      have ih := t_rounds n m _ _ _ h
      refine Reaches.round ?_
      unfold q4 at ih
      cases hc : (ba (q3 q) 128 != 0) with
      | true =>
        rw [hc, if_pos rfl] at ih
        exact (reach_run tyT_ok tO_ok mixed_ (t_round1 (m + n) p q zs) ⟨fun ρ => by rw [hc], ⟨h1, h2⟩, h3, fun ρ => by rw [h4], trivial⟩ rfl).trans ih
      | false =>
        rw [hc, if_neg (by decide)] at ih
        exact (reach_run tyT_ok tO_ok mixed_ (t_round2 (m + n) p q zs) ⟨fun ρ => by rw [hc], ⟨h1, h2⟩, h3, fun ρ => by rw [h4], trivial⟩ rfl).trans ih
    · cases h
theorem t_run : ∃ p q zs, tRun 254 1 1 (List.replicate 256 0) = some (p, q, zs) ∧ bx p (tw p) = 1 ∧ (ba (q3 q) 128 != 0) = false ∧ zs.length = 256 ∧ (zs.set 1 (tv (q3 q))).set 0 99 = sbox := by
  have h : (match tRun 254 1 1 (List.replicate 256 0) with
    | some (p, q, zs) => decide (bx p (tw p) = 1) && (!(ba (q3 q) 128 != 0) && (decide (zs.length = 256) && decide ((zs.set 1 (tv (q3 q))).set 0 99 = sbox)))
    | none => false) = true := by decide +kernel
  split at h
  · rename_i p q zs ho
    simp only [Bool.and_eq_true, decide_eq_true_eq, Bool.not_eq_true'] at h
    exact ⟨p, q, zs, ho, h.1, h.2.1, h.2.2.1, h.2.2.2⟩
  · cases h
def tEnd : St := { tm := tmL 44 [(0, .av (.one (.p 0 0)))], hp := [(0, ⟨0, 66, [.arr .u8 sbox]⟩)], nx := 1, gl := [] }
theorem t_reach {c : Code} (hc : Try.f21.body = some c) : Reaches Try.prog 0 [.code c] (start [] 44 [] 0 []) [.fin] tEnd := by
  obtain ⟨p, q, zs, h1, h2, h3, h4, h5⟩ := t_run
  refine (reach_run tyT_ok tO_ok mixed_ (t_start hc) trivial rfl).trans (Reaches.loop (1 + 254) ((t_rounds 254 1 _ _ _ h1).trans (Reaches.round ?_)))
  have := t_last 0 p q zs
  have hr := reach_run (m0 := 0) tyT_ok tO_ok mixed_ this (by
    rw [h2]
    refine ⟨fun ρ => by rw [h3], ⟨by decide, by decide⟩, by rw [h4]; decide, fun ρ => rfl, ?_, trivial⟩
    show 0 < (zs.set (1 : Int).toNat _).length
    rw [List.length_set, h4]
    decide) rfl
  rw [h2] at hr
  have e : (zs.set (1 : Int).toNat (tv (q3 q))).set 0 99 = sbox := h5
  rw [e] at hr
  exact hr
def tableE : Ent := fun args _ base => match args with
  | [] => some { val := .av (.one (.p base 0)), new := [⟨0, 66, [.arr .u8 sbox]⟩] }
  | _ => none
theorem table_ent : EntOK Try.prog 21 tableE := by
  refine ⟨⟨_, Try.func21, by kernel_rfl, by kernel_rfl⟩, fun args G base res hr ha ρ D N M w hG hin hfr => ?_⟩
  unfold tableE at hr
  split at hr
  · simp only [Option.some.injEq] at hr
    subst hr
    have hb : ∃ c, Try.f21.body = some c := Option.isSome_iff_exists.1 (by kernel_rfl)
    obtain ⟨c, hc⟩ := hb
    exact inl_calls (args := []) (G := G) (σ := []) (mu := []) (mus := []) (v := .av (.one (.p 0 0))) (st := tEnd) (p := .tt) tyT_ok Try.func21 hc rfl rfl rfl (.inr rfl) (t_reach hc) (by kernel_rfl) (by kernel_rfl) hG hin hfr
  · cases hr
end Go.Proofs.Ytkoackalpcmhaaa.Am
