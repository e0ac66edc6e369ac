/- Law 05's steps: 256 of them are one of the next byte. Conditions: none. -/
import Derived.Test.YtkoackalpcmhaaaA12
namespace Go.Proofs.Ytkoackalpcmhaaa.Am
set_option linter.unusedVariables false
set_option linter.unusedSimpArgs false
open Go Go.RowKit

/-! ### 256 steps, reckoned -/
theorem setAt_self (f : Nat → Int) (p : Nat) : setAt f p (f p) = f := by
  funext j
  unfold setAt
  split
  · rename_i h; rw [h]
  · rfl
theorem setAt_twice (f : Nat → Int) (p : Nat) (a b : Int) : setAt (setAt f p a) p b = setAt f p b := by
  funext j
  unfold setAt
  split <;> rfl
theorem setAt_comm (f : Nat → Int) {p q : Nat} (h : p ≠ q) (a b : Int) : setAt (setAt f p a) q b = setAt (setAt f q b) p a := by
  funext j
  unfold setAt
  by_cases h1 : j = p
  · rw [if_pos h1, if_pos h1, if_neg (by omega)]
  · rw [if_neg h1, if_neg h1]
theorem setAt_at (f : Nat → Int) (p : Nat) (a : Int) : setAt f p a p = a := if_pos rfl
theorem setAt_ne (f : Nat → Int) {p q : Nat} (a : Int) (h : q ≠ p) : setAt f p a q = f q := if_neg h
/-- The bytes ahead of the last don't hang on it. -/
theorem rG_last (v : Int) : ∀ (n i : Nat) (c : Int) (f : Nat → Int), 1 ≤ i → n + i ≤ 16 → rG n i c (setAt f 15 v) = setAt (rG n i c f) 15 v
  | 0, _, _, _, _, _ => rfl
  | n + 1, i, c, f, h, h' => by
    rw [rG, rG, setAt_ne f v (by omega), setAt_comm f (by omega)]
    exact rG_last v n (i + 1) _ _ (by omega) (by omega)
theorem rG_high {j : Nat} (hj : 16 ≤ j) : ∀ (n i : Nat) (c : Int) (f : Nat → Int), rG n i c f j = f j
  | 0, _, _, _ => rfl
  | n + 1, i, c, f => by rw [rG, rG_high hj, setAt_ne _ _ (by omega)]
theorem step_small {f : Nat → Int} (h : ∀ j, inR' (f j)) (h' : f 15 < 255) : rG 16 0 1 f = setAt f 15 (f 15 + 1) := by
  obtain ⟨h1, h2⟩ := h 15
  have e : cN (f 15) 1 = f 15 + 1 := cN_small ⟨h1, h2⟩ (by omega) (by omega)
  have h3 : (0 : Int) ≤ f 15 + 1 := by omega
  rw [rG, Nat.sub_zero, e, Int.tmod_eq_emod_of_nonneg h3, Int.emod_eq_of_lt h3 (by omega), u8_small h3 (by omega), Int.tdiv_eq_ediv_of_nonneg h3, Int.ediv_eq_zero_of_lt h3 (by omega), i64_small (by omega) (by omega)]
  refine rG_zero 15 1 _ fun j => ?_
  unfold setAt
  split
  · constructor <;> omega
  · exact h j
theorem step_full {f : Nat → Int} (h' : f 15 = 255) : rG 16 0 1 f = rG 15 1 1 (setAt f 15 0) := by
  rw [rG, Nat.sub_zero, h']
  rfl
def itN : Nat → (Nat → Int) → (Nat → Int)
  | 0, f => f
  | n + 1, f => rG 16 0 1 (itN n f)
theorem it_small {f : Nat → Int} (h : ∀ j, inR' (f j)) : ∀ n : Nat, f 15 + n ≤ 255 → itN n f = setAt f 15 (f 15 + n)
  | 0, _ => by rw [itN, Int.natCast_zero, Int.add_zero, setAt_self]
  | n + 1, hn => by
    have h1 := (h 15).1
    rw [itN, it_small h n (by omega), step_small (fun j => ?_) (by rw [setAt_at]; omega), setAt_at, setAt_twice]
    · congr 1
      omega
    · unfold setAt
      split
      · constructor <;> omega
      · exact h j
theorem it_add (f : Nat → Int) (m : Nat) : ∀ n, itN (n + m) f = itN n (itN m f)
  | 0 => by rw [Nat.zero_add]; rfl
  | n + 1 => by rw [show n + 1 + m = (n + m) + 1 by omega, itN, it_add f m n]; rfl
theorem rG_range : ∀ (n i : Nat) (c : Int) (f : Nat → Int), (∀ j, inR' (f j)) → ∀ j, inR' (rG n i c f j)
  | 0, _, _, _, h => h
  | n + 1, i, c, f, h => fun j => by
    rw [rG]
    refine rG_range n (i + 1) _ _ (fun j => ?_) j
    unfold setAt
    split
    · rw [u8_eq]; constructor <;> omega
    · exact h j
theorem it_256 {f : Nat → Int} (h : ∀ j, inR' (f j)) : itN 256 f = rG 15 1 1 f := by
  obtain ⟨v, hv⟩ : ∃ v : Nat, f 15 = v := ⟨(f 15).toNat, by have := (h 15).1; omega⟩
  have hv' : v ≤ 255 := by have := (h 15).2; omega
  have e1 : itN (255 - v) f = setAt f 15 255 := by
    rw [it_small h _ (by omega)]
    congr 1
    omega
  have e2 : itN (1 + (255 - v)) f = setAt (rG 15 1 1 f) 15 0 := by
    rw [it_add, e1]
    show rG 16 0 1 (setAt f 15 255) = _
    rw [step_full (setAt_at f 15 255), setAt_twice, rG_last 0 15 1 1 f (by omega) (by omega)]
  have hr : ∀ j, inR' (setAt (rG 15 1 1 f) 15 0 j) := fun j => by
    unfold setAt
    split
    · constructor <;> omega
    · exact rG_range 15 1 1 f h j
  have e3 : itN (v + (1 + (255 - v))) f = setAt (rG 15 1 1 f) 15 v := by
    rw [it_add, e2, it_small hr v (by rw [setAt_at]; omega), setAt_at, setAt_twice, Int.zero_add]
  rw [show 256 = v + (1 + (255 - v)) by omega, e3]
  have e4 : rG 15 1 1 f 15 = v := by
    have := congrFun (rG_last (v : Int) 15 1 1 f (by omega) (by omega)) 15
    rw [setAt_at, ← hv, setAt_self] at this
    rw [this, hv]
  rw [← e4, setAt_self]

/-! ### the law -/
noncomputable def sTodo : List AI := match Try.f6.body with
  | some c => todoOf (arun tyT mO noH [(10, 16)] 1000 [.code c] (start [.av (.one (.arr .u8 (keyL 16 fun _ => 0)))] 37 [] 0 []))
  | none => []
noncomputable def sX : Code := loopOf sTodo
noncomputable def sK : List AI := restOf sTodo
def sS (bf xf : Nat → Int) (i : Int) : St := { tm := tmL 37 [(1, .av (.one (.p 0 0))), (3, .av (.one (.p 1 0))), (11, ofV (.int .i64 i))], hp := [(0, ⟨0, 23, [.arr .u8 (keyL 16 bf)]⟩), (1, ⟨0, 23, [.arr .u8 (keyL 16 xf)]⟩)], nx := 2, gl := [] }
theorem s_start (bf : Nat → Int) {c : Code} (hc : Try.f6.body = some c) : runN tyT mO noH [(10, 16)] 1000 2 [] [1, 3, 11] [.code c] (start [.av (.one (.arr .u8 (keyL 16 bf)))] 37 [] 0 []) = some (.code (.loop sX) :: sK, sS bf bf 0, []) := by
  have : ∀ d, Try.f6.body = d → (match d with | some c => runN tyT mO noH [(10, 16)] 1000 2 [] [1, 3, 11] [.code c] (start [.av (.one (.arr .u8 (keyL 16 bf)))] 37 [] 0 []) | none => none) = some (.code (.loop sX) :: sK, sS bf bf 0, []) := by
    intro d hd
    subst hd
    kernel_rfl
  exact this _ hc
def isV (x y : Int) : Prop := ∀ ρ : Nat → Loc, (ofV (.int .i64 x)).conc ρ = (ofV (.int .i64 y)).conc ρ
theorem s_round (bf xf : Nat → Int) (i : Int) (n : Nat) : runN tyT mO (atH 5 0 (isB true) (atH 7 0 { is := some (ofV (.int .i64 (i + 1))) } noH)) [(10, 16)] 1000 2 [] [1, 3, 11] (.code sX :: .hd n sX :: sK) (sS bf xf i) = some (.hd n sX :: sK, sS bf (nextG 16 0 (g2 (keyL 16 xf))) (i + 1), [isA (decide (i < 256)) true, isV (IntKind.i64.wrap (i + 1)) (i + 1)]) := by
  kernel_rfl
def sEnd : St := { tm := tmL 37 [(2, ofV (.bool true))], hp := [], nx := 0, gl := [] }
theorem s_end (bf xf : Nat → Int) (n : Nat) : runN tyT mO (atH 15 2 (isB true) noH) [(10, 16)] 1000 0 [] [2] (.code sX :: .hd n sX :: sK) (sS bf xf 256) = some ([.fin], sEnd, [isA (keyL 16 xf == keyL 16 (rG 15 1 1 bf)) true]) := by
  kernel_rfl
theorem it_fun {bs : List Int} (hl : bs.length = 16) (h : ∀ j, inR' (g2 bs j)) : ∀ n : Nat, n ≤ 256 → ∀ m, Reaches Try.prog 0 (.hd (m + n) sX :: sK) (sS (g2 bs) (g2 bs) 0) (.hd m sX :: sK) (sS (g2 bs) (itN n (g2 bs)) n)
  | 0, _, m => Reaches.refl
  | n + 1, hn, m => by
    have ih := it_fun hl h n (by omega) (m + 1)
    rw [show m + 1 + n = m + (n + 1) by omega] at ih
    have hr : ∀ k j, inR' (itN k (g2 bs) j) := fun k => by
      induction k with
      | zero => exact h
      | succ k ih => exact rG_range 16 0 1 _ ih
    have hg : g2 (keyL 16 (itN n (g2 bs))) = itN n (g2 bs) := by
      funext j
      by_cases hj : j < 16
      · exact g2_keyL 16 _ j hj
      · have hz : ∀ k, itN k (g2 bs) j = g2 bs j := fun k => by
          induction k with
          | zero => rfl
          | succ k ih => rw [itN, rG_high (by omega)]; exact ih
        rw [hz, g2, g2, List.getD_eq_getElem?_getD, List.getD_eq_getElem?_getD, List.getElem?_eq_none (by rw [keyL_len]; omega), List.getElem?_eq_none (by omega)]
    have hs := reach_run (m0 := 0) tyT_ok mO_ok mixed_ (s_round (g2 bs) (itN n (g2 bs)) n m) ⟨fun ρ => by rw [decide_eq_true (by omega)], fun ρ => by rw [i64_small (by omega) (by omega)], trivial⟩ rfl
    rw [hg, next_rG 16 0 _ (hr n)] at hs
    exact ih.trans (Reaches.round hs)
theorem lawSteps_fact (bs : List Int) (hl : bs.length = 16) (hw : ∀ z ∈ bs, (Lit.int .u8 z).wf = true) (w : World) : Calls Try.prog 6 #[.agg (bs.map (Value.int .u8)).toArray] w fun e w' => e = .returned (.bool true) ∧ Below w.heap.size w w' := by
  have hr : ∀ j, inR' (g2 bs j) := wf_g2 hw
  obtain ⟨c, hc⟩ : ∃ c, Try.f6.body = some c := Option.isSome_iff_exists.1 (by kernel_rfl)
  have hR : Reaches Try.prog 0 [.code c] (start [.av (.one (.arr .u8 (keyL 16 (g2 bs))))] 37 [] 0 []) [.fin] sEnd :=
    (reach_run tyT_ok mO_ok mixed_ (s_start (g2 bs) hc) trivial rfl).trans (Reaches.loop (1 + 256) ((it_fun hl hr 256 (Nat.le_refl _) 1).trans (Reaches.round (reach_run tyT_ok mO_ok mixed_ (s_end (g2 bs) (itN 256 (g2 bs)) 0) ⟨fun ρ => by rw [it_256 hr, beq_self_eq_true], trivial⟩ rfl))))
  have := reach_val tyT_ok Try.func6 hc (avs := [.av (.one (.arr .u8 (keyL 16 (g2 bs))))]) (.inr rfl) hR (v := ofV (.bool true)) (by kernel_rfl) (by kernel_rfl) (by kernel_rfl) (fun s hs => by
    simp only [List.mem_cons, List.not_mem_nil, or_false] at hs
    subst hs
    exact fun s hs => (by simp [AV.segs] at hs; subst hs; trivial)) (hr_none w) (fun _ => ⟨none, 0⟩)
  rw [keyL_g2 hl] at this
  exact this
end Go.Proofs.Ytkoackalpcmhaaa.Am
