/- slices.Grow of nil, slices.Concat of one, two or three parts. Conditions: none. -/
import Derived.Test.YtpefomdegbmecaaDoorZ7
import Derived.MapKept
import Derived.Test.YtpefomdegbmecaaDoorZ6
import Derived.Test.YtpefomdegbmecaaDoorRows
import Derived.WalkKit
import Derived.ProofKit
import Derived.OpenShut
import Derived.ChangeOld
import Derived.Below
import Derived.ChangeSlices
import Derived.LaidLaws
import Derived.Lib.LaidTab
import Derived.Test.YtpefomdegbmecaaDoorZ1
set_option linter.unusedSectionVars false
namespace Go.Proofs.YtpefomdegbmecaaDoor.Am
set_option linter.unusedVariables false
set_option linter.unusedSimpArgs false
open Go Go.RowKit
set_option linter.unusedSectionVars false
variable [GT]
theorem widths_o (o : List Int) : widths [Seg.arr IntKind.u8 o] = o.length := by simp [widths, Seg.width]
theorem hr_none {w : World} (hgw : GWok w.heap.size [] w) : HR (fun _ => ⟨none, 0⟩) (· < 0) w.heap.size [] (look []) w := ⟨Nat.le_refl _, fun _ _ h => (by cases h), fun _ _ _ h => (by cases h), fun _ _ _ h => (by cases h), fun _ _ _ _ _ _ h => (by cases h), hgw⟩
theorem nil_ok : OOK Tryd.prog [] := ook_of (l := []) trivial
noncomputable abbrev fGr : Func := Tryd.f29
def grA (n : Nat) : List SV := [ofV (.slice none 0 0), ofV (.int .i64 (n : Nat))]
def grH (n : Nat) : Nat → Nat → Hint := atH 3 5 (isI .i64 0) (atH 3 6 (isI .i64 (n : Nat)) (atH 4 1 (isB true) (atH 5 5 symH (atH 5 8 { sym := true, c := some [.arr .u8 []] } noH))))
def grH0 : Nat → Nat → Hint := atH 3 5 (isI .i64 0) (atH 3 6 (isI .i64 0) (atH 4 1 (isB false) noH))
noncomputable def grE : St := { tm := tmL 27 [(4, .av (.one (.r 0 0 0 0)))], hp := [(0, ⟨1, 5, [.arr .u8 []]⟩)], nx := 1, gl := [] }
noncomputable def grE0 : St := { tm := tmL 27 [(4, ofV (Value.slice none 0 0))], hp := [], nx := 0, gl := [] }
theorem gr_run (n : Nat) : runF tyT [] (grH n) [] 0 [0] [4] fGr (grA n) [] 0 [] = some ([.fin], grE, [tI .i64 0 0, tI .i64 (IntKind.i64.wrap ((n : Int) - 0)) (n : Nat), tB (decide ((n : Int) > 0)) true, 0 ≤ (n : Int) ∧ n ≤ okSize, 1 ≤ n, n * 2 ≤ 140737488355328, 0 + n ≤ widths [Seg.arr .u8 (List.replicate n 0)], (0 : Int) ≤ 0 ∧ 0 ≤ widths [Seg.arr .u8 (List.replicate n 0)] - 0, ∀ ρ : Nat → Loc, segsVals ρ [.arr .u8 []] = (segsVals ρ [Seg.arr .u8 (List.replicate n 0)]).take 0]) := by kernel_rfl
theorem gr_run0 : runF tyT [] grH0 [] 0 [] [4] fGr (grA 0) [] 0 [] = some ([.fin], grE0, [tI .i64 0 0, tI .i64 (IntKind.i64.wrap (((0 : Nat) : Int) - 0)) 0, tB (decide ((0 : Int) > 0)) false]) := by kernel_rfl
theorem gr_reach (n : Nat) (h1 : 1 ≤ n) (h2 : n ≤ 1000000) : From Tryd.prog fGr (grA n) [] 0 [] [.fin] grE := by
  refine From.run tyT_ok nil_ok mixed_ (gr_run n) ⟨tI_iff.2 rfl, ?_, tB_gt.2 (by omega), ⟨by omega, by unfold okSize; omega⟩, h1, by omega, by rw [widths_o, List.length_replicate]; omega, ⟨by omega, by omega⟩, fun ρ => by rw [List.take_zero]; rfl, trivial⟩
  rw [Int.sub_zero, tI_64]
  omega
theorem gr_reach0 : From Tryd.prog fGr (grA 0) [] 0 [] [.fin] (adoptSt 5 .u8 4 grE0) :=
  (From.run tyT_ok nil_ok mixed_ gr_run0 ⟨tI_iff.2 rfl, by rw [tI_iff]; decide, by rw [tB_iff]; decide, trivial⟩).trans (Reaches.adopt 5 .u8 (by kernel_rfl))
def eGrow : Ent := fun args _ base => match args with
  | [.av (.one (.v (.slice none 0 0))), .av (.one (.v (.int .i64 z)))] => some { val := .av (.one (.r (base + 0) 0 0 0)), new := [⟨1, 5, [.arr .u8 []]⟩], asm := .say (0 ≤ z ∧ z ≤ 1000000) }
  | _ => none
theorem grow_ent : EntOK Tryd.prog 29 eGrow := by
  refine ⟨⟨_, Tryd.func29, by kernel_rfl, by kernel_rfl⟩, fun args G base res hr ha ρ D N M w hG hin hfr => ?_⟩
  unfold eGrow at hr
  split at hr
  · rename_i z
    simp only [Option.some.injEq] at hr
    subst hr
    obtain ⟨hz0, hz1⟩ : 0 ≤ z ∧ z ≤ 1000000 := ha
    obtain ⟨n, rfl⟩ : ∃ n : Nat, z = n := ⟨z.toNat, by omega⟩
    have hinA : ∀ s ∈ grA n, s.In (· < 0) := fun s hs => by
      simp only [grA, List.mem_cons, List.not_mem_nil, or_false] at hs
      rcases hs with rfl | rfl <;> exact fun s hs => (by simp [AV.segs] at hs; subst hs; trivial)
    by_cases hn : n = 0
    · subst hn
      obtain ⟨c, hc, hR⟩ := gr_reach0
      have hcall := reach_new (D := D) (N := N) (M := M) (G := G) (base := base) (ρ := ρ) tyT_ok Tryd.func29 hc (.inr rfl) hR (v := .av (.one (.r 0 0 0 0))) (by kernel_rfl) (es := [0]) (by kernel_rfl) (by kernel_rfl) (by kernel_rfl) (by kernel_rfl) hinA (hr_none hG.gwc) hG hfr (r := { val := .av (.one (.r (base + 0) 0 0 0)), new := [⟨1, 5, [.arr .u8 []]⟩] }) (by kernel_rfl)
      refine hcall.mono fun e w' ⟨v, h1, ρ', hF⟩ => ⟨v, h1, ρ', ⟨hF.agree, hF.val, hF.hr, hF.kept, hF.fresh⟩⟩
    · obtain ⟨c, hc, hR⟩ := gr_reach n (by omega) (by omega)
      have hcall := reach_new (D := D) (N := N) (M := M) (G := G) (base := base) (ρ := ρ) tyT_ok Tryd.func29 hc (.inr rfl) hR (v := .av (.one (.r 0 0 0 0))) (by kernel_rfl) (es := [0]) (by kernel_rfl) (by kernel_rfl) (by kernel_rfl) (by kernel_rfl) hinA (hr_none hG.gwc) hG hfr (r := { val := .av (.one (.r (base + 0) 0 0 0)), new := [⟨1, 5, [.arr .u8 []]⟩] }) (by kernel_rfl)
      refine hcall.mono fun e w' ⟨v, h1, ρ', hF⟩ => ⟨v, h1, ρ', ⟨hF.agree, hF.val, hF.hr, hF.kept, hF.fresh⟩⟩
  · cases hr
noncomputable abbrev fCC : Func := Tryd.f24
noncomputable def ccO : List (Nat × Ent) := [(29, eGrow)]
theorem ccO_ok : OOK Tryd.prog ccO := ook_of (l := [(29, eGrow)]) ⟨grow_ent, trivial⟩
def ccH : Nat → Nat → Hint := atH 6 1 (isB false) (atH 13 2 symH noH)
def cc1B (a : List Int) (cap : Nat) : List CB := [.rs cap [.sl .u8 a]]
def cc2B (a b : List Int) (cap : Nat) : List CB := [.rs cap [.sl .u8 a, .sl .u8 b]]
def cc3B (a b c : List Int) (cap : Nat) : List CB := [.rs cap [.sl .u8 a, .sl .u8 b, .sl .u8 c]]
noncomputable def ccS (n L : Nat) (hp : List (Nat × Blk)) (z : List Int) : St := { tm := tmL 36 [(2, .av (.one (.r n 0 L 0)))], hp := hp ++ [(n, ⟨1, 5, [.arr .u8 z]⟩)], nx := n + 1, gl := [] }
theorem cc1_run (a : List Int) (cap : Nat) : runF tyT ccO ccH [(3, 2), (11, 2)] 2 [3] [2] fCC (bA (cc1B a cap) 0 0) (bH κ0 (cc1B a cap) 0 0) 2 [] = some ([.fin], ccS 2 (0 + a.length) (bH κ0 (cc1B a cap) 0 0) ([] ++ a.take a.length), [tB (decide (IntKind.wrap IntKind.i64 (0 + (a.length : Int)) < 0)) false, 0 ≤ IntKind.wrap IntKind.i64 (0 + (a.length : Int)) ∧ IntKind.wrap IntKind.i64 (0 + (a.length : Int)) ≤ 1000000, 0 = 0, 0 + a.length ≤ widths [Seg.arr IntKind.u8 a], (0 + a.length) * 2 ≤ 140737488355328]) := by kernel_rfl
theorem cc2_run (a b : List Int) (cap : Nat) : runF tyT ccO ccH [(3, 3), (11, 3)] 3 [5] [2] fCC (bA (cc2B a b cap) 0 0) (bH κ0 (cc2B a b cap) 0 0) 3 [] = some ([.fin], ccS 3 (widths [Seg.arr IntKind.u8 ([] ++ a.take a.length)] + b.length) (bH κ0 (cc2B a b cap) 0 0) ([] ++ a.take a.length ++ b.take b.length), [tB (decide (IntKind.wrap IntKind.i64 (0 + (a.length : Int)) < 0)) false, tB (decide (IntKind.wrap IntKind.i64 (IntKind.wrap IntKind.i64 (0 + (a.length : Int)) + (b.length : Int)) < 0)) false, 0 ≤ IntKind.wrap IntKind.i64 (IntKind.wrap IntKind.i64 (0 + (a.length : Int)) + (b.length : Int)) ∧ IntKind.wrap IntKind.i64 (IntKind.wrap IntKind.i64 (0 + (a.length : Int)) + (b.length : Int)) ≤ 1000000, 0 = 0, 0 + a.length ≤ widths [Seg.arr IntKind.u8 a], (0 + a.length) * 2 ≤ 140737488355328, 0 + a.length = widths [Seg.arr IntKind.u8 ([] ++ a.take a.length)], 0 + b.length ≤ widths [Seg.arr IntKind.u8 b], (widths [Seg.arr IntKind.u8 ([] ++ a.take a.length)] + b.length) * 2 ≤ 140737488355328]) := by kernel_rfl
theorem cc3_run (a b c : List Int) (cap : Nat) : runF tyT ccO ccH [(3, 4), (11, 4)] 4 [7] [2] fCC (bA (cc3B a b c cap) 0 0) (bH κ0 (cc3B a b c cap) 0 0) 4 [] = some ([.fin], ccS 4 (widths [Seg.arr IntKind.u8 ([] ++ a.take a.length ++ b.take b.length)] + c.length) (bH κ0 (cc3B a b c cap) 0 0) ([] ++ a.take a.length ++ b.take b.length ++ c.take c.length), [tB (decide (IntKind.wrap IntKind.i64 (0 + (a.length : Int)) < 0)) false, tB (decide (IntKind.wrap IntKind.i64 (IntKind.wrap IntKind.i64 (0 + (a.length : Int)) + (b.length : Int)) < 0)) false, tB (decide (IntKind.wrap IntKind.i64 (IntKind.wrap IntKind.i64 (IntKind.wrap IntKind.i64 (0 + (a.length : Int)) + (b.length : Int)) + (c.length : Int)) < 0)) false, 0 ≤ IntKind.wrap IntKind.i64 (IntKind.wrap IntKind.i64 (IntKind.wrap IntKind.i64 (0 + (a.length : Int)) + (b.length : Int)) + (c.length : Int)) ∧ IntKind.wrap IntKind.i64 (IntKind.wrap IntKind.i64 (IntKind.wrap IntKind.i64 (0 + (a.length : Int)) + (b.length : Int)) + (c.length : Int)) ≤ 1000000, 0 = 0, 0 + a.length ≤ widths [Seg.arr IntKind.u8 a], (0 + a.length) * 2 ≤ 140737488355328, 0 + a.length = widths [Seg.arr IntKind.u8 ([] ++ a.take a.length)], 0 + b.length ≤ widths [Seg.arr IntKind.u8 b], (widths [Seg.arr IntKind.u8 ([] ++ a.take a.length)] + b.length) * 2 ≤ 140737488355328, widths [Seg.arr IntKind.u8 ([] ++ a.take a.length)] + b.length = widths [Seg.arr IntKind.u8 ([] ++ a.take a.length ++ b.take b.length)], 0 + c.length ≤ widths [Seg.arr IntKind.u8 c], (widths [Seg.arr IntKind.u8 ([] ++ a.take a.length ++ b.take b.length)] + c.length) * 2 ≤ 140737488355328]) := by kernel_rfl
/-- Parts together. -/
def ccF : List CB → Option BR
  | [.rs _ [.sl .u8 a]] => some { pre := a.length ≤ 1000000, val := .av (.one (.r 0 0 a.length 0)), new := [⟨1, 5, [.arr .u8 a]⟩] }
  | [.rs _ [.sl .u8 a, .sl .u8 b]] => some { pre := a.length + b.length ≤ 1000000, val := .av (.one (.r 0 0 (a.length + b.length) 0)), new := [⟨1, 5, [.arr .u8 (a ++ b)]⟩] }
  | [.rs _ [.sl .u8 a, .sl .u8 b, .sl .u8 c]] => some { pre := a.length + b.length + c.length ≤ 1000000, val := .av (.one (.r 0 0 (a.length + b.length + c.length) 0)), new := [⟨1, 5, [.arr .u8 (a ++ b ++ c)]⟩] }
  | _ => none
theorem wN {n : Nat} (h : n ≤ 1000000) : IntKind.wrap IntKind.i64 (n : Int) = n := w64 (by omega) (by omega)
theorem cc_ends (cbs : List CB) (r : BR) (hF : ccF cbs = some r) (hp : r.pre) : EndsB Tryd.prog tyT [] fCC cbs r := by
  unfold ccF at hF
  split at hF
  · rename_i cap a
    injection hF with hF
    subst hF
    have hp : a.length ≤ 1000000 := hp
    have hr := cc1_run a cap
    simp only [List.nil_append, List.take_length, widths_o, Int.zero_add, Nat.zero_add, wN hp] at hr
    exact fun κ => ⟨_, _, .av (.one (.r 2 0 a.length 0)), [2], .inr rfl, FromK.run tyT_ok ccO_ok mixed_ hr ⟨tB_nlt.2 (by omega), ⟨by omega, by omega⟩, trivial, Nat.le_refl _, by omega, trivial⟩, by kernel_rfl, by kernel_rfl, by kernel_rfl⟩
  · rename_i cap a b
    injection hF with hF
    subst hF
    have hp : a.length + b.length ≤ 1000000 := hp
    have hr := cc2_run a b cap
    have e2 : (a.length : Int) + (b.length : Int) = ((a.length + b.length : Nat) : Int) := by omega
    simp only [List.nil_append, List.take_length, widths_o, Int.zero_add, Nat.zero_add, wN (show a.length ≤ 1000000 by omega), e2, wN hp] at hr
    exact fun κ => ⟨_, _, .av (.one (.r 3 0 (a.length + b.length) 0)), [3], .inr rfl, FromK.run tyT_ok ccO_ok mixed_ hr ⟨tB_nlt.2 (by omega), tB_nlt.2 (by omega), ⟨by omega, by omega⟩, trivial, Nat.le_refl _, by omega, trivial, Nat.le_refl _, by omega, trivial⟩, by kernel_rfl, by kernel_rfl, by kernel_rfl⟩
  · rename_i cap a b c
    injection hF with hF
    subst hF
    have hp : a.length + b.length + c.length ≤ 1000000 := hp
    have hr := cc3_run a b c cap
    have e2 : (a.length : Int) + (b.length : Int) = ((a.length + b.length : Nat) : Int) := by omega
    have e3 : ((a.length + b.length : Nat) : Int) + (c.length : Int) = ((a.length + b.length + c.length : Nat) : Int) := by omega
    simp only [List.nil_append, List.take_length, widths_o, Int.zero_add, Nat.zero_add, wN (show a.length ≤ 1000000 by omega), e2, wN (show a.length + b.length ≤ 1000000 by omega), e3, wN hp, List.length_append] at hr
    exact fun κ => ⟨_, _, .av (.one (.r 4 0 (a.length + b.length + c.length) 0)), [4], .inr rfl, FromK.run tyT_ok ccO_ok mixed_ hr ⟨tB_nlt.2 (by omega), tB_nlt.2 (by omega), tB_nlt.2 (by omega), ⟨by omega, by omega⟩, trivial, Nat.le_refl _, by omega, trivial, Nat.le_refl _, by omega, trivial, Nat.le_refl _, by omega, trivial⟩, by kernel_rfl, by kernel_rfl, by kernel_rfl⟩
  · cases hF
theorem concat_ent (sh : List ShB) (hs : sh.length = 1 := by rfl) : EntOK Tryd.prog 24 (entB sh ccF) :=
  ok_B tyT_ok Tryd.func24 (by kernel_rfl) (by kernel_rfl) [] (fun x hx => by cases hx) (by rw [hs]; kernel_rfl) cc_ends
end Go.Proofs.YtpefomdegbmecaaDoor.Am
/- The known map of keys' sizes: its contract. Conditions: none. -/
namespace Go.Proofs.YtpefomdegbmecaaDoor.Am
set_option linter.unusedVariables false
set_option linter.unusedSimpArgs false
open Go Go.RowKit
open Rg (getD_set getD_of_ready unl unl_set least_unl eval_put_self)
set_option linter.unusedSectionVars false
section
noncomputable abbrev fSz : Func := Tryd.f20
noncomputable def szOps : Array Oper := match fSz.body with
  | some (.seq _ (.seq (.region _ ops _) _)) => ops
  | _ => #[]
noncomputable def szR0 : Array Oper := match fSz.body with
  | some (.seq (.region _ ops _) _) => ops
  | _ => #[]
theorem sz_body : fSz.body = some (.seq (.region 0 szR0 false) (.seq (.region 1 szOps true) .ret)) := by kernel_rfl
theorem sz_size : szOps.size = 11 := by kernel_rfl
theorem sz0_size : szR0.size = 1 := by kernel_rfl
noncomputable def szO (i : Nat) (h : i < 11) : Oper := szOps[i]'(by rw [sz_size]; exact h)
theorem szO_get (i : Nat) (h : i < 11) : szOps[i]? = some (szO i h) := Array.getElem?_eq_getElem _
/-- What stands ahead of an operation, those that bind. -/
def bindsL (o : Oper) : List Nat := (o.after.toList.filter (Region.binds .any ·)).map (·.on)
theorem ready_dep {ops : Array Oper} {L : Array Bool} {i : Nat} (h : i ∈ Region.ready .any ops L) {o : Oper} (ho : ops[i]? = some o) : ∀ d ∈ bindsL o, L.getD d false = true := by
  unfold Region.ready at h
  rw [List.mem_filter, ho] at h
  have h2 := h.2
  simp only [Bool.and_eq_true, Option.map_some, Option.getD_some] at h2
  have h3 := h2.2
  intro d hd
  unfold bindsL at hd
  rw [List.mem_map] at hd
  obtain ⟨e, he, rfl⟩ := hd
  rw [List.mem_filter] at he
  rw [← Array.all_toList, List.all_eq_true] at h3
  have h4 := h3 e he.1
  rw [he.2] at h4
  simpa using h4
theorem ready_of {ops : Array Oper} {L : Array Bool} {i : Nat} {o : Oper} (hi : i < ops.size) (hL : L.size = ops.size) (ho : ops[i]? = some o) (hl : L.getD i false = false) (hd : ∀ d ∈ bindsL o, L.getD d false = true) : i ∈ Region.ready .any ops L := by
  unfold Region.ready
  rw [List.mem_filter, ho, List.mem_range]
  refine ⟨hi, ?_⟩
  simp only [Bool.and_eq_true, Option.map_some, Option.getD_some]
  refine ⟨?_, ?_⟩
  · have : L.getD i true = false := by
      have h2 : i < L.size := by omega
      simp only [Array.getD_eq_getD_getElem?, Array.getElem?_eq_getElem h2, Option.getD_some] at hl ⊢
      exact hl
    rw [this]; rfl
  · rw [← Array.all_toList, List.all_eq_true]
    intro e he
    cases hb : Region.binds .any e with
    | false => rfl
    | true => rw [hd e.on (List.mem_map.2 ⟨e, List.mem_filter.2 ⟨he, hb⟩, rfl⟩)]; rfl
theorem wpOp_of {P : Program} {ops : Array Oper} {Q : Exit → Act → World → Prop} {K : Act → World → Prop} {a : Act} {w : World} {i : Nat} {o : Oper} (ho : ops[i]? = some o) (hg : o.guard = none) (h : o.wp P a w K Q) : wpOp P ops Q i K a w := by
  unfold wpOp
  rw [ho]
  have : Region.wanted o (yielded ops a.tmps) = true := by unfold Region.wanted; rw [hg]
  simp only [this, if_true]
  exact .inl h
theorem wp_val {P : Program} {Q : Exit → Act → World → Prop} {K : Act → World → Prop} {a : Act} {w w' : World} {o : Oper} {v : Value} (hr : (execOp a.eval o).run P w = .ok (.value v) w') (h : K (a.put o.dst v) w') : o.wp P a w K Q := by
  unfold Oper.wp
  rw [hr]
  exact h
theorem wp_unit {P : Program} {Q : Exit → Act → World → Prop} {K : Act → World → Prop} {a : Act} {w w' : World} {o : Oper} (hr : (execOp a.eval o).run P w = .ok .skip w') (h : K (a.put o.dst undef) w') : o.wp P a w K Q := by
  unfold Oper.wp
  rw [hr]
  exact h
def kV (l : List Int) : Value := .agg (l.map (Value.int .i64)).toArray
def vE (x : List Int × Int) : Value × Value := (kV x.1, .int .i64 x.2)
def insL (b2 b4 b6 b8 : Bool) : List (List Int × Int) := (if b2 then [([3, 1], 32)] else []) ++ (if b4 then [([4, 1], 32)] else []) ++ (if b6 then [([4, 2], 64)] else []) ++ (if b8 then [([4, 3], 32)] else [])
structure SzI (W : World) (L : Array Bool) (a : Act) (w : World) : Prop where
  sz : L.size = 11
  ts : a.tmps.size = 7
  df : a.defers = []
  z : L.getD 0 false = false → w = W ∧ L.getD 2 false = false ∧ L.getD 4 false = false ∧ L.getD 6 false = false ∧ L.getD 8 false = false
  m : L.getD 0 false = true → a.eval (.tmp 1) = .map (some W.heap.size) ∧ ∃ es clk, w = { W with heap := W.heap.push (.map es clk) } ∧ ∃ tab : List (List Int × Int), tab.Perm (insL (L.getD 2 false) (L.getD 4 false) (L.getD 6 false) (L.getD 8 false)) ∧ es.toList.map (fun e => (e.key, e.val)) = tab.map vE
  k1 : L.getD 1 false = true → a.eval (.tmp 2) = kV [3, 1]
  k3 : L.getD 3 false = true → a.eval (.tmp 3) = kV [4, 1]
  k5 : L.getD 5 false = true → a.eval (.tmp 4) = kV [4, 2]
  k7 : L.getD 7 false = true → a.eval (.tmp 5) = kV [4, 3]
  r9 : L.getD 9 false = true → a.eval (.tmp 6) = .map (some W.heap.size)
  r10 : L.getD 10 false = true → a.eval (.tmp 0) = .map (some W.heap.size)
theorem put_size {a : Act} {d : Option Tmp} {v : Value} : (a.put d v).tmps.size = a.tmps.size := by
  cases d <;> simp [Act.put]
theorem put_def {a : Act} {d : Option Tmp} {v : Value} : (a.put d v).defers = a.defers := by
  cases d <;> rfl
/-- A temporary is put. -/
theorem eval_put {a : Act} {t u : Nat} {v : Value} (h : t < a.tmps.size) : (a.put (some t) v).eval (.tmp u) = if t = u then v else a.eval (.tmp u) := by
  split
  · rename_i e; subst e; exact eval_put_self h
  · rename_i e; exact eval_put_ne e
theorem sz_run0 (a : Act) (w : World) : (execOp a.eval (szO 0 (by decide))).run Tryd.prog w = .ok (.value (.map (some w.heap.size))) (w.alloc (.map #[] 0)) := by kernel_rfl
theorem sz_run1 (a : Act) (w : World) : (execOp a.eval (szO 1 (by decide))).run Tryd.prog w = .ok (.value (kV [3, 1])) w := by kernel_rfl
theorem sz_run3 (a : Act) (w : World) : (execOp a.eval (szO 3 (by decide))).run Tryd.prog w = .ok (.value (kV [4, 1])) w := by kernel_rfl
theorem sz_run5 (a : Act) (w : World) : (execOp a.eval (szO 5 (by decide))).run Tryd.prog w = .ok (.value (kV [4, 2])) w := by kernel_rfl
theorem sz_run7 (a : Act) (w : World) : (execOp a.eval (szO 7 (by decide))).run Tryd.prog w = .ok (.value (kV [4, 3])) w := by kernel_rfl
theorem sz_run9 (a : Act) (w : World) : (execOp a.eval (szO 9 (by decide))).run Tryd.prog w = .ok (.value (a.eval (.tmp 1))) w := by kernel_rfl
theorem sz_run10 (a : Act) (w : World) : (execOp a.eval (szO 10 (by decide))).run Tryd.prog w = .ok (.value (a.eval (.tmp 6))) w := by kernel_rfl
theorem sz_dst : (szO 0 (by decide)).dst = some 1 ∧ (szO 1 (by decide)).dst = some 2 ∧ (szO 2 (by decide)).dst = none ∧ (szO 3 (by decide)).dst = some 3 ∧ (szO 4 (by decide)).dst = none ∧ (szO 5 (by decide)).dst = some 4 ∧ (szO 6 (by decide)).dst = none ∧ (szO 7 (by decide)).dst = some 5 ∧ (szO 8 (by decide)).dst = none ∧ (szO 9 (by decide)).dst = some 6 ∧ (szO 10 (by decide)).dst = some 0 := by
  refine ⟨?_, ?_, ?_, ?_, ?_, ?_, ?_, ?_, ?_, ?_, ?_⟩ <;> kernel_rfl
theorem sz_guard : ∀ i (h : i < 11), (szO i h).guard = none
  | 0, _ | 1, _ | 2, _ | 3, _ | 4, _ | 5, _ | 6, _ | 7, _ | 8, _ | 9, _ | 10, _ => by kernel_rfl
theorem sz_b2 : bindsL (szO 2 (by decide)) = [0, 1] := by kernel_rfl
theorem sz_b4 : bindsL (szO 4 (by decide)) = [0, 3] := by kernel_rfl
theorem sz_b6 : bindsL (szO 6 (by decide)) = [0, 5] := by kernel_rfl
theorem sz_b8 : bindsL (szO 8 (by decide)) = [0, 7] := by kernel_rfl
theorem sz_b9 : bindsL (szO 9 (by decide)) = [0, 1, 2, 3, 4, 5, 6, 7, 8] := by kernel_rfl
theorem sz_b10 : bindsL (szO 10 (by decide)) = [9, 0, 1, 2, 3, 4, 5, 6, 7, 8, 9] := by kernel_rfl
theorem sz_low : ∀ i (h : i < 11), ((bindsL (szO i h)).all fun d => Nat.blt d i) = true
  | 0, _ | 1, _ | 2, _ | 3, _ | 4, _ | 5, _ | 6, _ | 7, _ | 8, _ | 9, _ | 10, _ => by kernel_rfl
noncomputable def szT : TypeId := match (szO 2 (by decide)).op with
  | .insert t _ _ _ => t
  | _ => 0
noncomputable def szK : TypeId := match Tryd.prog.underlying szT with
  | some (.map k _) => k
  | _ => 0
noncomputable def szV : TypeId := match Tryd.prog.underlying szT with
  | some (.map _ v) => v
  | _ => 0
noncomputable def szF : Array Field := match Tryd.prog.underlying szK with
  | some (.struct f) => f
  | _ => #[]
theorem sz_und : Tryd.prog.underlying szT = some (.map szK szV) := by kernel_rfl
theorem sz_undk : Tryd.prog.underlying szK = some (.struct szF) := by kernel_rfl
def K4 : List (List Int) := [[3, 1], [4, 1], [4, 2], [4, 3]]
theorem sz_ne (w : World) {x y : List Int} (hx : x ∈ K4) (hy : y ∈ K4) (h : x ≠ y) : (Op.equal szK (kV x) (kV y)).run Tryd.prog w = .ok false w := by
  simp only [K4, List.mem_cons, List.not_mem_nil, or_false] at hx hy
  rcases hx with rfl | rfl | rfl | rfl <;> rcases hy with rfl | rfl | rfl | rfl <;> first | exact absurd rfl h | kernel_rfl
theorem sz_check (w : World) {x : List Int} (hx : x ∈ K4) : (Instr.checkKey false 10000 szK (kV x)).run Tryd.prog w = .ok () w := by
  simp only [K4, List.mem_cons, List.not_mem_nil, or_false] at hx
  rcases hx with rfl | rfl | rfl | rfl <;> kernel_rfl
theorem sz_ask {P : Program} {w : World} {kt : TypeId} {k : Value} : ∀ (es : List MapEntry) (i : Nat), (∀ e ∈ es, (Op.equal kt k e.key).run P w = .ok false w) → (Instr.findAsking kt k es i).run P w = .ok none w
  | [], _, _ => rfl
  | e :: es, i, h => by
    unfold Instr.findAsking
    rw [Sem.run_bind, h e List.mem_cons_self]
    exact sz_ask es (i + 1) fun e he => h e (List.mem_cons_of_mem _ he)
theorem sz_key {w : World} {x : List Int} {es : List MapEntry} (h : ∀ e ∈ es, (Op.equal szK (kV x) e.key).run Tryd.prog w = .ok false w) : (Instr.findKey szK (kV x) es).run Tryd.prog w = .ok none w := by
  unfold Instr.findKey
  simp only [Sem.run_bind, run_underlying sz_undk, Result.andThen_ok]
  cases es with
  | nil => rfl
  | cons e l =>
    have : Instr.findNow (.struct szF) (kV x) (e :: l) 0 = none := by simp [Instr.findNow, Instr.sameNow, kV]
    rw [this]
    exact sz_ask _ _ h
theorem push_set {α : Type} (A : Array α) (x y : α) : (A.push x).setIfInBounds A.size y = A.push y := by
  apply Array.ext'
  simp [List.set_append]
theorem sz_upd {W : World} {x : List Int} {es : Array MapEntry} {clk : Nat} {v : Value} (hx : x ∈ K4) (h : ∀ e ∈ es.toList, (Op.equal szK (kV x) e.key).run Tryd.prog { W with heap := W.heap.push (.map es clk) } = .ok false { W with heap := W.heap.push (.map es clk) }) :
    (Instr.mapUpdate szT (.map (some W.heap.size)) (kV x) v).run Tryd.prog { W with heap := W.heap.push (.map es clk) } = .ok () { W with heap := W.heap.push (.map (es.push { key := kV x, val := v, born := clk }) (clk + 1)) } := by
  have hg : (W.heap.push (Obj.map es clk))[W.heap.size]? = some (Obj.map es clk) := by simp
  unfold Instr.mapUpdate
  simp only [Sem.run_bind, run_underlying sz_und, Result.andThen_ok]
  rw [MapKept.run_getObj_map (w := { W with heap := W.heap.push (.map es clk) }) hg]
  simp only [Result.andThen_ok, Sem.run_bind]
  rw [sz_check _ hx]
  simp only [Result.andThen_ok]
  rw [sz_key h]
  simp only [Result.andThen_ok]
  rw [MapKept.run_setObj_map (w := { W with heap := W.heap.push (.map es clk) }) _ hg]
  show Result.ok () { W with heap := (W.heap.push (Obj.map es clk)).setIfInBounds W.heap.size _ } = _
  rw [push_set]
theorem ins_mem0 (b2 b4 b6 b8 : Bool) (x : List Int × Int) (hx : x ∈ insL b2 b4 b6 b8) : x.1 ∈ K4 ∧ (b2 = false → [3, 1] ≠ x.1) ∧ (b4 = false → [4, 1] ≠ x.1) ∧ (b6 = false → [4, 2] ≠ x.1) ∧ (b8 = false → [4, 3] ≠ x.1) := by
  have h : (b2 = true ∧ x = ([3, 1], 32)) ∨ (b4 = true ∧ x = ([4, 1], 32)) ∨ (b6 = true ∧ x = ([4, 2], 64)) ∨ (b8 = true ∧ x = ([4, 3], 32)) := by
    unfold insL at hx
    cases b2 <;> cases b4 <;> cases b6 <;> cases b8 <;> first | (simp at hx; done) | simpa using hx
  rcases h with ⟨rfl, rfl⟩ | ⟨rfl, rfl⟩ | ⟨rfl, rfl⟩ | ⟨rfl, rfl⟩ <;> refine ⟨by decide, ?_, ?_, ?_, ?_⟩ <;> first | exact fun (h : true = false) => absurd h (by decide) | exact fun _ => by decide
theorem ins_2 : ∀ b4 b6 b8 : Bool, (insL false b4 b6 b8 ++ [([3, 1], 32)]).Perm (insL true b4 b6 b8) := by decide
theorem ins_4 : ∀ b2 b6 b8 : Bool, (insL b2 false b6 b8 ++ [([4, 1], 32)]).Perm (insL b2 true b6 b8) := by decide
theorem ins_6 : ∀ b2 b4 b8 : Bool, (insL b2 b4 false b8 ++ [([4, 2], 64)]).Perm (insL b2 b4 true b8) := by decide
theorem ins_8 : ∀ b2 b4 b6 : Bool, (insL b2 b4 b6 false ++ [([4, 3], 32)]).Perm (insL b2 b4 b6 true) := by decide
theorem sz_op2 (a : Act) : execOp a.eval (szO 2 (by decide)) = (do Instr.mapUpdate szT (a.eval (.tmp 1)) (a.eval (.tmp 2)) (.int .i64 32); pure .skip) := by kernel_rfl
theorem sz_op4 (a : Act) : execOp a.eval (szO 4 (by decide)) = (do Instr.mapUpdate szT (a.eval (.tmp 1)) (a.eval (.tmp 3)) (.int .i64 32); pure .skip) := by kernel_rfl
theorem sz_op6 (a : Act) : execOp a.eval (szO 6 (by decide)) = (do Instr.mapUpdate szT (a.eval (.tmp 1)) (a.eval (.tmp 4)) (.int .i64 64); pure .skip) := by kernel_rfl
theorem sz_op8 (a : Act) : execOp a.eval (szO 8 (by decide)) = (do Instr.mapUpdate szT (a.eval (.tmp 1)) (a.eval (.tmp 5)) (.int .i64 32); pure .skip) := by kernel_rfl
/-- A value is put. -/
theorem SzI.val {W : World} {L : Array Bool} {a : Act} {w : World} (h : SzI W L a w) {i t : Nat} {v : Value} (hc : (i, t, v) = (1, 2, kV [3, 1]) ∨ (i, t, v) = (3, 3, kV [4, 1]) ∨ (i, t, v) = (5, 4, kV [4, 2]) ∨ (i, t, v) = (7, 5, kV [4, 3]) ∨ (i, t, v) = (9, 6, .map (some W.heap.size)) ∨ (i, t, v) = (10, 0, .map (some W.heap.size))) : SzI W (L.setIfInBounds i true) (a.put (some t) v) w := by
  have hi : i < L.size := by
    rw [h.sz]
    simp only [Prod.mk.injEq] at hc
    omega
  have ht : t < a.tmps.size := by
    rw [h.ts]
    simp only [Prod.mk.injEq] at hc
    omega
  have e : ∀ j, (L.setIfInBounds i true).getD j false = if i = j then true else L.getD j false := fun j => getD_set hi
  have ev : ∀ u, (a.put (some t) v).eval (.tmp u) = if t = u then v else a.eval (.tmp u) := fun u => eval_put ht
  refine ⟨by simp [h.sz], put_size.trans h.ts, put_def.trans h.df, ?_, ?_, ?_, ?_, ?_, ?_, ?_, ?_⟩
  all_goals
    simp only [e, ev]
    simp only [Prod.mk.injEq] at hc
    rcases hc with ⟨rfl, rfl, rfl⟩ | ⟨rfl, rfl, rfl⟩ | ⟨rfl, rfl, rfl⟩ | ⟨rfl, rfl, rfl⟩ | ⟨rfl, rfl, rfl⟩ | ⟨rfl, rfl, rfl⟩ <;> first | exact h.z | exact h.m | exact h.k1 | exact h.k3 | exact h.k5 | exact h.k7 | exact h.r9 | exact h.r10 | exact fun _ => rfl
/-- The map is made. -/
theorem SzI.mk0 {W : World} {L : Array Bool} {a : Act} {w : World} (h : SzI W L a w) (h0 : L.getD 0 false = false) : SzI W (L.setIfInBounds 0 true) (a.put (some 1) (.map (some w.heap.size))) (w.alloc (.map #[] 0)) := by
  have hi : 0 < L.size := by rw [h.sz]; decide
  have ht : 1 < a.tmps.size := by rw [h.ts]; decide
  have e : ∀ j, (L.setIfInBounds 0 true).getD j false = if 0 = j then true else L.getD j false := fun j => getD_set hi
  have ev : ∀ v u, (a.put (some 1) v).eval (.tmp u) = if 1 = u then v else a.eval (.tmp u) := fun v u => eval_put ht
  obtain ⟨rfl, h2, h4, h6, h8⟩ := h.z h0
  refine ⟨by simp [h.sz], put_size.trans h.ts, put_def.trans h.df, ?_, ?_, ?_, ?_, ?_, ?_, ?_, ?_⟩
  · rw [e]; exact fun (h : true = false) => absurd h (by decide)
  · intro _
    rw [e, e, e, e, ev]
    refine ⟨rfl, #[], 0, rfl, [], ?_, rfl⟩
    show ([] : List (List Int × Int)).Perm (insL (L.getD 2 false) (L.getD 4 false) (L.getD 6 false) (L.getD 8 false))
    rw [h2, h4, h6, h8]
    exact List.Perm.refl _
  all_goals
    simp only [e, ev]
    first | exact h.k1 | exact h.k3 | exact h.k5 | exact h.k7 | exact h.r9 | exact h.r10
/-- A key is laid. -/
theorem SzI.ins {W : World} {L : Array Bool} {a : Act} {w : World} (h : SzI W L a w) (h0 : L.getD 0 false = true) {i k : Nat} {x : List Int} {z : Int} (hc : (i, k, x, z) = (2, 2, [3, 1], 32) ∨ (i, k, x, z) = (4, 3, [4, 1], 32) ∨ (i, k, x, z) = (6, 4, [4, 2], 64) ∨ (i, k, x, z) = (8, 5, [4, 3], 32)) (hl : L.getD i false = false) (hk : a.eval (.tmp k) = kV x) :
    ∃ w', (Instr.mapUpdate szT (a.eval (.tmp 1)) (a.eval (.tmp k)) (.int .i64 z)).run Tryd.prog w = .ok () w' ∧ SzI W (L.setIfInBounds i true) a w' := by
  obtain ⟨hm, es, clk, rfl, tab, hp, he⟩ := h.m h0
  have hx : x ∈ K4 := by
    simp only [Prod.mk.injEq] at hc
    rcases hc with ⟨_, _, rfl, _⟩ | ⟨_, _, rfl, _⟩ | ⟨_, _, rfl, _⟩ | ⟨_, _, rfl, _⟩ <;> decide
  have hne : ∀ y ∈ tab, y.1 ∈ K4 ∧ x ≠ y.1 := fun y hy => by
    obtain ⟨g1, g2, g3, g4, g5⟩ := ins_mem0 _ _ _ _ y (hp.mem_iff.1 hy)
    refine ⟨g1, ?_⟩
    simp only [Prod.mk.injEq] at hc
    rcases hc with ⟨rfl, _, rfl, _⟩ | ⟨rfl, _, rfl, _⟩ | ⟨rfl, _, rfl, _⟩ | ⟨rfl, _, rfl, _⟩
    · exact g2 hl
    · exact g3 hl
    · exact g4 hl
    · exact g5 hl
  have hq : ∀ e ∈ es.toList, (Op.equal szK (kV x) e.key).run Tryd.prog { W with heap := W.heap.push (.map es clk) } = .ok false { W with heap := W.heap.push (.map es clk) } := fun e hm => by
    have h1 : (e.key, e.val) ∈ tab.map vE := he ▸ List.mem_map.2 ⟨e, hm, rfl⟩
    obtain ⟨y, hy, hv⟩ := List.mem_map.1 h1
    obtain ⟨g1, g2⟩ := hne y hy
    have : e.key = kV y.1 := (congrArg Prod.fst hv).symm
    rw [this]
    exact sz_ne _ hx g1 g2
  refine ⟨_, by rw [hm, hk]; exact sz_upd hx hq, ?_⟩
  have hi : i < L.size := by
    rw [h.sz]
    simp only [Prod.mk.injEq] at hc
    omega
  have e : ∀ j, (L.setIfInBounds i true).getD j false = if i = j then true else L.getD j false := fun j => getD_set hi
  have hmap : ((es.push { key := kV x, val := .int .i64 z, born := clk }).toList.map fun e => (e.key, e.val)) = (tab ++ [(x, z)]).map vE := by
    rw [Array.toList_push, List.map_append, he, List.map_append]
    rfl
  refine ⟨by simp [h.sz], h.ts, h.df, ?_, ?_, ?_, ?_, ?_, ?_, ?_, ?_⟩
  · intro hz
    rw [e] at hz
    split at hz
    · cases hz
    · rw [h0] at hz; cases hz
  · intro _
    refine ⟨hm, _, _, rfl, tab ++ [(x, z)], ?_, hmap⟩
    refine (hp.append_right _).trans ?_
    simp only [e]
    simp only [Prod.mk.injEq] at hc
    rcases hc with ⟨rfl, _, rfl, rfl⟩ | ⟨rfl, _, rfl, rfl⟩ | ⟨rfl, _, rfl, rfl⟩ | ⟨rfl, _, rfl, rfl⟩
    · rw [hl]; exact ins_2 _ _ _
    · rw [hl]; exact ins_4 _ _ _
    · rw [hl]; exact ins_6 _ _ _
    · rw [hl]; exact ins_8 _ _ _
  all_goals
    simp only [e]
    simp only [Prod.mk.injEq] at hc
    rcases hc with ⟨rfl, _⟩ | ⟨rfl, _⟩ | ⟨rfl, _⟩ | ⟨rfl, _⟩ <;> first | exact h.k1 | exact h.k3 | exact h.k5 | exact h.k7 | exact h.r9 | exact h.r10
theorem sz_mem (L : Array Bool) (d : Nat) (hL : ∀ i, i < 11 → L.getD i false = true) (hd : d < 11) : L.getD d false = true := hL d hd
/-- When nothing is ready, all is done. -/
theorem sz_done {L : Array Bool} (hs : L.size = 11) (hr : Region.ready .any szOps L = []) : ∀ i, i < 11 → L.getD i false = true := by
  intro i hi
  cases hl : L.getD i false with
  | true => rfl
  | false =>
    obtain ⟨m, ⟨hm, hml⟩, hmin⟩ := least_unl (p := fun j => j < 11 ∧ L.getD j false = false) i ⟨hi, hl⟩
    have : m ∈ Region.ready .any szOps L := ready_of (by rw [sz_size]; exact hm) (by rw [hs, sz_size]) (szO_get m hm) hml fun d hd => by
      have h1 := List.all_eq_true.1 (sz_low m hm) d hd
      have h2 : d < m := by simpa [Nat.blt_eq] using h1
      cases h3 : L.getD d false with
      | true => rfl
      | false => exact absurd ⟨by omega, h3⟩ (hmin d h2)
    rw [hr] at this
    cases this
section
attribute [local irreducible] szO szT szK kV
theorem sz_step {W : World} {L : Array Bool} {a : Act} {w : World} (h : SzI W L a w) {i : Nat} (hi : i < 11) (hr : i ∈ Region.ready .any szOps L) {Q : Exit → Act → World → Prop} {K : Act → World → Prop} (hK : ∀ a' w', SzI W (L.setIfInBounds i true) a' w' → K a' w') : wpOp Tryd.prog szOps Q i K a w := by
  refine wpOp_of (szO_get i hi) (sz_guard i hi) ?_
  have hl := getD_of_ready hr
  have hd := ready_dep hr (szO_get i hi)
  obtain ⟨d0, d1, d2, d3, d4, d5, d6, d7, d8, d9, d10⟩ := sz_dst
  have hval : ∀ (t : Nat) (v : Value), (szO i hi).dst = some t → (execOp a.eval (szO i hi)).run Tryd.prog w = .ok (.value v) w → SzI W (L.setIfInBounds i true) (a.put (some t) v) w → (szO i hi).wp Tryd.prog a w K Q := fun t v hdst hrun hI => wp_val hrun (by rw [hdst]; exact hK _ _ hI)
  have hput : ∀ (k : Nat) (z : Int), (szO i hi).dst = none → execOp a.eval (szO i hi) = (do Instr.mapUpdate szT (a.eval (.tmp 1)) (a.eval (.tmp k)) (.int .i64 z); pure .skip) → (∃ w', (Instr.mapUpdate szT (a.eval (.tmp 1)) (a.eval (.tmp k)) (.int .i64 z)).run Tryd.prog w = .ok () w' ∧ SzI W (L.setIfInBounds i true) a w') → (szO i hi).wp Tryd.prog a w K Q := fun k z hdst hop ⟨w', hrun, hI⟩ => wp_unit (w' := w') (by rw [hop, Sem.run_bind, hrun]; rfl) (by rw [hdst]; exact hK _ _ hI)
  match i, hi with
  | 0, _ =>
    refine wp_val (sz_run0 a w) ?_
    rw [d0]
    exact hK _ _ (h.mk0 hl)
  | 1, _ => exact hval 2 (kV [3, 1]) d1 (sz_run1 a w) (h.val (.inl rfl))
  | 3, _ => exact hval 3 (kV [4, 1]) d3 (sz_run3 a w) (h.val (.inr (.inl rfl)))
  | 5, _ => exact hval 4 (kV [4, 2]) d5 (sz_run5 a w) (h.val (.inr (.inr (.inl rfl))))
  | 7, _ => exact hval 5 (kV [4, 3]) d7 (sz_run7 a w) (h.val (.inr (.inr (.inr (.inl rfl)))))
  | 9, _ =>
    rw [sz_b9] at hd
    refine hval 6 _ d9 (sz_run9 a w) ?_
    rw [(h.m (hd 0 (by simp))).1]
    exact h.val (.inr (.inr (.inr (.inr (.inl rfl)))))
  | 10, _ =>
    rw [sz_b10] at hd
    refine hval 0 _ d10 (sz_run10 a w) ?_
    rw [h.r9 (hd 9 (by simp))]
    exact h.val (.inr (.inr (.inr (.inr (.inr rfl)))))
  | 2, _ =>
    rw [sz_b2] at hd
    exact hput 2 32 d2 (sz_op2 a) (h.ins (i := 2) (k := 2) (z := 32) (x := [3, 1]) (hd 0 (by simp)) (.inl rfl) hl (h.k1 (hd 1 (by simp))))
  | 4, _ =>
    rw [sz_b4] at hd
    exact hput 3 32 d4 (sz_op4 a) (h.ins (i := 4) (k := 3) (z := 32) (x := [4, 1]) (hd 0 (by simp)) (.inr (.inl rfl)) hl (h.k3 (hd 3 (by simp))))
  | 6, _ =>
    rw [sz_b6] at hd
    exact hput 4 64 d6 (sz_op6 a) (h.ins (i := 6) (k := 4) (z := 64) (x := [4, 2]) (hd 0 (by simp)) (.inr (.inr (.inl rfl))) hl (h.k5 (hd 5 (by simp))))
  | 8, _ =>
    rw [sz_b8] at hd
    exact hput 5 32 d8 (sz_op8 a) (h.ins (i := 8) (k := 5) (z := 32) (x := [4, 3]) (hd 0 (by simp)) (.inr (.inr (.inr rfl))) hl (h.k7 (hd 7 (by simp))))
end
theorem ready_lt {ops : Array Oper} {L : Array Bool} {i : Nat} (h : i ∈ Region.ready .any ops L) : i < ops.size := by
  unfold Region.ready at h
  rw [List.mem_filter, List.mem_range] at h
  exact h.1
theorem sz_any {W : World} {Q : Exit → Act → World → Prop} (hQ : ∀ L a w, SzI W L a w → (∀ i, i < 11 → L.getD i false = true) → Q .normal a w) : ∀ (n : Nat) (L : Array Bool) (a : Act) (w : World), unl szOps L = n → SzI W L a w → wpAny Tryd.prog .any szOps Q n L a w
  | 0, L, a, w, hn, h => by
    have hr : Region.ready .any szOps L = [] := by
      rw [List.eq_nil_iff_forall_not_mem]
      intro i hi
      have h1 := unl_set (ops := szOps) (L := L) (ready_lt hi) (by rw [h.sz]; have := ready_lt hi; rw [sz_size] at this; exact this) (getD_of_ready hi)
      omega
    exact ⟨hr, hQ L a w h (sz_done h.sz hr)⟩
  | n + 1, L, a, w, hn, h => by
    refine ⟨fun hr => hQ L a w h (sz_done h.sz hr), fun i hi => ?_⟩
    have hlt : i < 11 := by have := ready_lt hi; rw [sz_size] at this; exact this
    have h1 := unl_set (ops := szOps) (L := L) (ready_lt hi) (by rw [h.sz]; exact hlt) (getD_of_ready hi)
    exact sz_step h hlt hi fun a' w' hI => sz_any hQ n _ a' w' (by omega) hI
variable [GT]
/-- The map of sizes. -/
def eSizes : Ent := fun args _ base => match args with
  | [] => some { val := .av (.one (.m base)), new := [⟨3, 0, []⟩] }
  | _ => none
theorem sz_r0 (a : Act) (w : World) : (execOp a.eval (szR0[0]'(by rw [sz0_size]; decide))).run Tryd.prog w = .ok (.value (.map none)) w := by kernel_rfl
theorem sz_r0g : (szR0[0]'(by rw [sz0_size]; decide)).guard = none := by kernel_rfl
theorem sz_r0d : (szR0[0]'(by rw [sz0_size]; decide)).dst = some 0 := by kernel_rfl
theorem sz_res (a : Act) (w : World) : (results fSz a.tmps).run Tryd.prog w = .ok (a.eval (.tmp 0)) w := by kernel_rfl
theorem sizes_ent : EntOK Tryd.prog 20 eSizes := by
  refine ⟨⟨_, Tryd.func20, by kernel_rfl, by kernel_rfl⟩, fun args G base res hr ha ρ D N M w hG hin hfr => ?_⟩
  unfold eSizes at hr
  split at hr
  · simp only [Option.some.injEq] at hr
    subst hr
    refine calls_of_wp Tryd.func20 sz_body ?_
    refine wp_seq (wp_region ?_)
    rw [sz0_size]
    show wpOps _ _ _ [0] _ _
    rw [wpOps_cons]
    refine wpOp_of (Array.getElem?_eq_getElem (by rw [sz0_size]; decide)) sz_r0g (wp_val (sz_r0 _ _) ?_)
    rw [sz_r0d]
    show (Code.seq _ _).wp _ _ _ _
    refine wp_seq (wp_region_any mixed_ ?_)
    have hun : unl szOps (Array.replicate szOps.size false) = szOps.size := by
      rw [sz_size]; kernel_rfl
    refine sz_any (W := w.drew) (fun L a' w' hI hall => ?_) _ _ _ _ hun ?_
    · obtain ⟨hm, es, clk, rfl, tab, hp, he⟩ := hI.m (hall 0 (by decide))
      rw [hall 2 (by decide), hall 4 (by decide), hall 6 (by decide), hall 8 (by decide)] at hp
      show Code.ret.wp _ _ _ _
      refine wp_ret ⟨hI.df, _, sz_res a' _, ?_⟩
      rw [hI.r10 (hall 10 (by decide))]
      refine ⟨_, rfl, up ρ base ⟨some ⟨w.heap.size, 0, none⟩, 0⟩, ?_⟩
      refine fits_fresh (b := ⟨3, 0, []⟩) (l := ⟨some ⟨w.heap.size, 0, none⟩, 0⟩) hG ?_ (by have := hfr base (Nat.le_refl _) (by show base < base + 1; omega); exact this) rfl rfl (fun s hs => by cases hs) ?_ ?_ ?_
      · exact ((Below.refl _ _).drew).alloc (Nat.le_refl _) _
      · refine ⟨rfl, w.heap.size, es, clk, by simp [up], by show (w.heap.push _)[_]? = _; simp, tab, hp, he⟩
      · intro x hx
        injection hx with hx
        subst hx
        exact ⟨Nat.le_refl _, by show w.heap.size < (w.heap.push _).size; simp⟩
      · simp [up, SV.conc, AV.conc, Seg.conc]
    · have hrep : ∀ j, (Array.replicate szOps.size false).getD j false = false := fun j => rep_false _ j
      refine ⟨by rw [Array.size_replicate, sz_size], ?_, rfl, fun _ => ⟨rfl, hrep 2, hrep 4, hrep 6, hrep 8⟩, fun h => absurd ((hrep 0).symm.trans h) (by decide), fun h => absurd ((hrep 1).symm.trans h) (by decide), fun h => absurd ((hrep 3).symm.trans h) (by decide), fun h => absurd ((hrep 5).symm.trans h) (by decide), fun h => absurd ((hrep 7).symm.trans h) (by decide), fun h => absurd ((hrep 9).symm.trans h) (by decide), fun h => absurd ((hrep 10).symm.trans h) (by decide)⟩
      rw [put_size]
      show ((List.map (SV.conc ρ) []).toArray ++ Array.replicate (fSz.ntmps - (List.map (SV.conc ρ) []).toArray.size) undef).size = 7
      have : fSz.ntmps = 7 := by kernel_rfl
      rw [this]
      simp
  · cases hr
end
end Go.Proofs.YtpefomdegbmecaaDoor.Am
/- The bytes of a string, by a function whose last steps are a conversion and an assignment: the contract. Conditions: none. -/
namespace Go.Proofs.YtpefomdegbmecaaDoor.Am
set_option linter.unusedVariables false
set_option linter.unusedSimpArgs false
open Go Go.RowKit
set_option linter.unusedSectionVars false
section
variable {P : Program} {T : List (Nat × Ty)} {O : List (Nat × Ent)} {N : Nat} {M : List Nat} {w0 : Wd} {ops : Array Oper}
variable [GT]
/-- The first operations of a region. -/
theorem seq_pre (hT : TOK P T) (hO : OOK P O) {H : Nat → Hint} {Q : Exit → Act → World → Prop} {l2 : List Oper} : ∀ (l : List Oper) (i : Nat) (s s' : St) (p : Asm) (ρ : Nat → Loc) (a : Act) (w : World), seqOps T O ops H l i s = some (s', p) → p.holds → RelS ρ N M w0 s a w →
    (∀ ρ' a' w', RelS ρ' N M w0 s' a' w' → wpList P ops Q l2 a' w') → wpList P ops Q (l ++ l2) a w
  | [], i, s, s', p, ρ, a, w, h, hp, hR, hQ => by
    simp only [seqOps, Option.some.injEq, Prod.mk.injEq] at h
    obtain ⟨rfl, _⟩ := h
    exact hQ ρ a w hR
  | o :: l, i, s, s', p, ρ, a, w, h, hp, hR, hQ => by
    unfold seqOps at h
    split at h
    · rename_i r hr
      split at h
      · rename_i s1 p1 h1
        simp only [Option.some.injEq, Prod.mk.injEq] at h
        obtain ⟨rfl, rfl⟩ := h
        have hres := opRes_sound hT hO hR.rel (fun id hid => Nat.lt_of_succ_le (Nat.le_of_ble_eq_true hid)) hr hp.1 (fun id h1 _ => Nat.not_lt.2 h1)
        rw [List.cons_append]
        unfold wpList
        rcases hres with ⟨hw, hS, hin⟩ | ⟨hw, rfl⟩
        · rw [if_pos hw]
          refine .inl (Rg.wp_of_gives hS fun v w' ⟨ρ', hF⟩ => ?_)
          exact seq_pre hT hO l (i + 1) _ _ _ ρ' _ _ h1 hp.2 (hR.step hF hin) hQ
        · rw [if_neg (by rw [hw]; simp)]
          exact seq_pre hT hO l (i + 1) _ _ _ ρ _ _ h1 hp.2 hR.skip hQ
      · cases h
    · cases h
/-- One operation, known by its result. -/
theorem op_one (hT : TOK P T) (hO : OOK P O) {hi : Hint} {Q : Exit → Act → World → Prop} {l2 : List Oper} {o : Oper} {s : St} {r : Res} {ρ : Nat → Loc} {a : Act} {w : World} (hr : opRes T O ops s.get s.gl (look s.hp) hi s.nx (fun id => Nat.blt id s.nx) o = some r) (hg : o.guard = none) (ha : r.asm.holds) (hR : RelS ρ N M w0 s a w)
    (hQ : ∀ ρ' v w', Fits ρ (· < s.nx) N M (look s.hp) s.nx r w ρ' v w' → RelS ρ' N M w0 (s.step o.dst r) (a.put o.dst v) w' → wpList P ops Q l2 (a.put o.dst v) w') : wpList P ops Q (o :: l2) a w := by
  have hres := opRes_sound hT hO hR.rel (fun id hid => Nat.lt_of_succ_le (Nat.le_of_ble_eq_true hid)) hr ha (fun id h1 _ => Nat.not_lt.2 h1)
  unfold wpList
  have hw0 : Region.wanted o (yielded ops a.tmps) = true := by unfold Region.wanted; rw [hg]
  rcases hres with ⟨hw, hS, hin⟩ | ⟨hw, rfl⟩
  · rw [if_pos hw]
    exact .inl (Rg.wp_of_gives hS fun v w' ⟨ρ', hF⟩ => hQ ρ' v w' hF (hR.step hF hin))
  · rw [hw0] at hw
    cases hw
end
section
noncomputable abbrev fKb : Func := Tryd.f12
noncomputable def kbR0 : Array Oper := match fKb.body with
  | some (.seq (.region _ ops _) _) => ops
  | _ => #[]
noncomputable def kbR1 : Array Oper := match fKb.body with
  | some (.seq _ (.seq (.region _ ops _) _)) => ops
  | _ => #[]
theorem kb_body : fKb.body = some (.seq (.region 0 kbR0 false) (.seq (.region 1 kbR1 false) .ret)) := by kernel_rfl
noncomputable def kbP : List Oper := kbR1.toList.take 2
noncomputable def kbC : Oper := kbR1.toList.getD 2 { dst := none, op := .move (.tmp 0), type := 0, pos := "", after := #[], guard := none }
noncomputable def kbA : Oper := kbR1.toList.getD 3 { dst := none, op := .move (.tmp 0), type := 0, pos := "", after := #[], guard := none }
theorem kb_list : kbR1.toList = kbP ++ [kbC, kbA] := by kernel_rfl
theorem kb_g : kbC.guard = none ∧ kbA.guard = none := ⟨by kernel_rfl, by kernel_rfl⟩
variable [GT]
def kbArg (v p : Value) (s : ByteArray) : SV := .av (.agg [.v v, .v p, .v (.string s)])
/-- A key's bytes. -/
def eKb : Ent := fun args _ base => match args with
  | [.av (.agg [.v (.int .i64 v), .v (.int .i64 p), .v (.string s)])] => some { val := .av (.one (.r base 0 (bytesOf s).length 0)), new := [⟨2, 5, [.arr .u8 (bytesOf s)]⟩] }
  | _ => none
noncomputable def kbS0 (v p : Int) (s : ByteArray) : St := start [kbArg (.int .i64 v) (.int .i64 p) s] fKb.ntmps [] 0 []
def kbS1 (v p : Int) (s : ByteArray) : St := { tm := [some (kbArg (.int .i64 v) (.int .i64 p) s), some (.av (.one (.p 0 0))), some (ofV (.slice none 0 0)), none, none, none], hp := [(0, ⟨0, 31, [.v (.int .i64 v), .v (.int .i64 p), .v (.string s)]⟩)], nx := 1, gl := [] }
def kbS2 (v p : Int) (s : ByteArray) : St := { tm := [some (kbArg (.int .i64 v) (.int .i64 p) s), some (.av (.one (.p 0 0))), some (ofV (.slice none 0 0)), some (.av (.one (.p 0 2))), some (ofV (.string s)), none], hp := [(0, ⟨0, 31, [.v (.int .i64 v), .v (.int .i64 p), .v (.string s)]⟩)], nx := 1, gl := [] }
def kbRes (s : ByteArray) : Res := { val := .av (.one (.r 1 0 (bytesOf s).length 0)), new := [⟨2, 5, [.arr .u8 (bytesOf s)]⟩] }
theorem kb_s1 (v p : Int) (s : ByteArray) : seqOps tyT [] kbR0 (noH 0) kbR0.toList 0 (kbS0 v p s) = some (kbS1 v p s, .and .tt (.and .tt .tt)) := by kernel_rfl
theorem kb_s2 (v p : Int) (s : ByteArray) : seqOps tyT [] kbR1 (noH 1) kbP 0 (kbS1 v p s) = some (kbS2 v p s, .and .tt (.and .tt .tt)) := by kernel_rfl
theorem kb_s3 (v p : Int) (s : ByteArray) : opRes tyT [] kbR1 (kbS2 v p s).get (kbS2 v p s).gl (look (kbS2 v p s).hp) {} (kbS2 v p s).nx (fun id => Nat.blt id (kbS2 v p s).nx) kbC = some (kbRes s) := by kernel_rfl
theorem kb_d : kbC.dst = some 5 ∧ kbA.dst = some 2 := ⟨by kernel_rfl, by kernel_rfl⟩
def kbVal (s : ByteArray) : Res := { val := .av (.one (.r 1 0 (bytesOf s).length 0)) }
theorem kb_s4 (v p : Int) (s : ByteArray) : opRes tyT [] kbR1 ((kbS2 v p s).step (some 5) (kbRes s)).get ((kbS2 v p s).step (some 5) (kbRes s)).gl (look ((kbS2 v p s).step (some 5) (kbRes s)).hp) {} ((kbS2 v p s).step (some 5) (kbRes s)).nx (fun id => Nat.blt id ((kbS2 v p s).step (some 5) (kbRes s)).nx) kbA = some (kbVal s) := by kernel_rfl
theorem kb_res (v p : Int) (s : ByteArray) : resVal tyT (((kbS2 v p s).step (some 5) (kbRes s)).step (some 2) (kbVal s)) fKb.results.toList = some (.av (.one (.r 1 0 (bytesOf s).length 0))) := by kernel_rfl
theorem kb_nt : 1 ≤ fKb.ntmps := by
  have : fKb.ntmps = 6 := by kernel_rfl
  rw [this]
  decide
theorem kb_ent : EntOK Tryd.prog 12 eKb := by
  refine ⟨⟨_, Tryd.func12, by kernel_rfl, by kernel_rfl⟩, fun args G base res hr ha ρ D N M w hG hin hfr => ?_⟩
  unfold eKb at hr
  split at hr
  · rename_i v p s
    simp only [Option.some.injEq] at hr
    subst hr
    refine calls_of_wp Tryd.func12 kb_body ?_
    have hinA : ∀ x ∈ [kbArg (.int .i64 v) (.int .i64 p) s], x.In (· < 0) := fun x hx => by
      simp only [List.mem_cons, List.not_mem_nil, or_false] at hx
      subst hx
      intro y hy
      simp only [AV.segs, List.mem_cons, List.not_mem_nil, or_false] at hy
      rcases hy with rfl | rfl | rfl <;> trivial
    have hR0 := rel_start (n := fKb.ntmps) (nx := 0) (hp := []) (gl := []) (lk := fun _ => none) hinA kb_nt (hr_none hG.gwc) (fun x id h => by
      rcases h with ⟨g, _, h⟩ | h
      · cases h
      · cases h)
    refine wp_seq (wp_region_list ?_)
    rw [← List.append_nil kbR0.toList]
    refine seq_pre tyT_ok nil_ok kbR0.toList 0 _ _ _ _ _ _ (kb_s1 v p s) ⟨trivial, trivial, trivial⟩ hR0 fun ρ1 a1 w1 h1 => ?_
    refine wpList_nil ?_
    show (Code.seq _ _).wp _ _ _ _
    refine wp_seq (wp_region_list ?_)
    rw [kb_list]
    refine seq_pre tyT_ok nil_ok kbP 0 _ _ _ _ _ _ (kb_s2 v p s) ⟨trivial, trivial, trivial⟩ h1 fun ρ2 a2 w2 h2 => ?_
    refine op_one tyT_ok nil_ok (kb_s3 v p s) kb_g.1 trivial h2 fun ρ3 v3 w3 hF3 h3 => ?_
    rw [kb_d.1] at h3 ⊢
    refine op_one tyT_ok nil_ok (kb_s4 v p s) kb_g.2 trivial h3 fun ρ4 v4 w4 hF4 h4 => ?_
    rw [kb_d.2] at h4 ⊢
    refine wpList_nil ?_
    show Code.ret.wp _ _ _ _
    refine wp_ret ⟨h4.rel.defers, _, resVal_spec (P := Tryd.prog) tyT_ok h4 (kb_res v p s), ?_⟩
    have e4 : ρ4 1 = ρ3 1 := hF4.agree 1 (by show 1 < _; exact Nat.lt_of_lt_of_eq (by decide : 1 < 2) rfl)
    have hb3 : BlkOK ρ3 w4 1 ⟨2, 5, [.arr .u8 (bytesOf s)]⟩ := by
      have := (h4.rel.hr.blk 1 ⟨2, 5, [.arr .u8 (bytesOf s)]⟩ (by rfl)).2.2
      unfold BlkOK at *
      simp only at this ⊢
      rw [← e4]
      exact this
    refine ⟨_, rfl, up ρ base (ρ3 1), ?_⟩
    refine fits_fresh (b := ⟨2, 5, [.arr .u8 (bytesOf s)]⟩) (l := ρ3 1) hG ?_ (hfr base (Nat.le_refl _) (by show base < base + 1; omega)) rfl rfl (fun x hx => (by simp at hx; subst hx; trivial)) ?_ ?_ ?_
    · exact h4.rel.kept.below
    · unfold BlkOK at *
      simp only at hb3 ⊢
      rw [up_self]
      exact hb3
    · intro x hx
      have h5 := (hF3.fresh rfl).2 0 _ x rfl hx
      have h6 := h2.rel.kept.size
      have h7 := h4.rel.hr.lt 1 ⟨2, 5, [.arr .u8 (bytesOf s)]⟩ x rfl (by rw [e4]; exact hx)
      exact ⟨Nat.le_trans h6 h5, h7⟩
    · show Value.slice (radr (ρ4 1) 0 0) _ _ = Value.slice (radr (up ρ base (ρ3 1) base) 0 0) _ _
      rw [up_self, e4]
  · cases hr
end
end Go.Proofs.YtpefomdegbmecaaDoor.Am
/- The abstract machine: a block's cells told otherwise. Conditions: none. -/
namespace Go.Proofs.YtpefomdegbmecaaDoor.Am
set_option linter.unusedVariables false
set_option linter.unusedSimpArgs false
open Go Go.RowKit
set_option linter.unusedSectionVars false
def retH (id : Nat) (c : List Seg) : List (Nat × Blk) → List (Nat × Blk)
  | [] => []
  | (k, b) :: l => match Nat.beq k id with
    | true => (k, ⟨b.k, b.ty, c⟩) :: retH id c l
    | false => (k, b) :: retH id c l
def retS (id : Nat) (c : List Seg) (s : St) : St := { s with hp := retH id c s.hp }
section
variable {P : Program}
variable [GT]
theorem look_retH {id : Nat} {c : List Seg} {i : Nat} : ∀ {l : List (Nat × Blk)}, look (retH id c l) i = if i = id then (look l i).map (fun b => ⟨b.k, b.ty, c⟩) else look l i
  | [] => by simp [retH, look]
  | (k, b) :: l => by
    unfold retH
    split
    · rename_i hk
      have := Nat.eq_of_beq_eq_true hk
      subst this
      rw [look_cons, look_cons, look_retH (l := l)]
      by_cases h : k = i
      · subst h; simp
      · rw [if_neg h, if_neg h]
    · rename_i hk
      have hk : k ≠ id := fun e => by rw [e, Nat.beq_refl] at hk; cases hk
      rw [look_cons, look_cons, look_retH (l := l)]
      by_cases h : k = i
      · subst h; rw [if_pos rfl, if_pos rfl, if_neg hk]
      · rw [if_neg h, if_neg h]
def cOf (s : St) (id : Nat) : List Seg := match look s.hp id with
  | some b => b.c
  | none => []
theorem Reaches.retell {m0 : Nat} {todo : List AI} {s : St} (id : Nat) (c : List Seg) (hv : ∀ ρ : Nat → Loc, segsVals ρ c = segsVals ρ (cOf s id)) (hf : c.all freeB = true := by kernel_rfl) : Reaches P m0 todo s todo (retS id c s) := by
  intro B N M w0 hl hR ρ a w hr
  refine hR ρ a w ⟨⟨hr.rel.slots, hr.rel.globals, hr.rel.hr.recon fun i b' hb' => ?_, hr.rel.kept, hr.rel.defers⟩, hr.size⟩
  have e : look (retS id c s).hp i = look (retH id c s.hp) i := rfl
  rw [e, look_retH] at hb'
  by_cases hi : i = id
  · subst hi
    rw [if_pos rfl, Option.map_eq_some_iff] at hb'
    obtain ⟨b, hb, rfl⟩ := hb'
    have hv := hv ρ
    unfold cOf at hv
    rw [hb] at hv
    exact ⟨b, hb, rfl, rfl, hv, fun x hx => free_in (List.all_eq_true.1 hf x hx) _⟩
  · rw [if_neg hi] at hb'
    exact ⟨b', hb', rfl, rfl, rfl, (hr.rel.hr.blk i b' hb').2.1⟩
end
end Go.Proofs.YtpefomdegbmecaaDoor.Am
/- Lists of a fixed length by a function; bytes. Conditions: none. -/
namespace Go.Proofs.YtpefomdegbmecaaDoor.Am
set_option linter.unusedVariables false
set_option linter.unusedSimpArgs false
open Go Go.RowKit
set_option linter.unusedSectionVars false
def keyL (n : Nat) (f : Nat → Int) : List Int := (upTo 0 n).map f
def g2 (l : List Int) (i : Nat) : Int := l.getD i 0
theorem upTo_range : ∀ (n i : Nat), upTo i n = (List.range n).map (i + ·)
  | 0, _ => rfl
  | n + 1, i => by
    rw [upTo, upTo_range n (i + 1), List.range_succ_eq_map, List.map_cons, List.map_map]
    congr 1
    exact List.map_congr_left fun j _ => by simp only [Function.comp_apply]; omega
theorem keyL_len (n : Nat) (f : Nat → Int) : (keyL n f).length = n := by simp [keyL, upTo_range]
theorem keyL_get (n : Nat) (f : Nat → Int) (i : Nat) (h : i < n) : (keyL n f).getD i 0 = f i := by
  unfold keyL
  rw [upTo_range, List.map_map, List.getD_eq_getElem?_getD, List.getElem?_map, List.getElem?_range h]
  simp
theorem keyL_congr {n : Nat} {f g : Nat → Int} (h : ∀ i, i < n → f i = g i) : keyL n f = keyL n g := by
  unfold keyL
  refine List.map_congr_left fun i hi => h i ?_
  rw [upTo_range] at hi
  simp at hi
  exact hi
theorem keyL_g2 {l : List Int} {n : Nat} (h : l.length = n) : keyL n (g2 l) = l := by
  refine List.ext_getElem (by rw [keyL_len, h]) fun i h1 h2 => ?_
  have := keyL_get n (g2 l) i (by rw [keyL_len] at h1; exact h1)
  rw [List.getD_eq_getElem?_getD, List.getElem?_eq_getElem h1] at this
  simp only [Option.getD_some] at this
  rw [this]
  simp [g2, List.getD_eq_getElem?_getD, List.getElem?_eq_getElem h2]
def setF (f : Nat → Int) (t : Nat) (v : Int) (i : Nat) : Int := match Nat.beq i t with
  | true => v
  | false => f i
theorem setF_eq (f : Nat → Int) (t : Nat) (v : Int) (i : Nat) : setF f t v i = if i = t then v else f i := by
  unfold setF
  split
  · rename_i h; rw [if_pos (Nat.eq_of_beq_eq_true h)]
  · rename_i h; rw [if_neg fun e => by rw [e, Nat.beq_refl] at h; cases h]
theorem keyL_set (n : Nat) (f : Nat → Int) (t : Nat) (v : Int) : (keyL n f).set t v = keyL n (setF f t v) := by
  refine List.ext_getElem (by rw [List.length_set, keyL_len, keyL_len]) fun i h1 h2 => ?_
  rw [keyL_len] at h2
  have e1 := keyL_get n f i h2
  have e2 := keyL_get n (setF f t v) i h2
  rw [List.getD_eq_getElem?_getD, List.getElem?_eq_getElem (by rw [keyL_len]; exact h2)] at e1 e2
  simp only [Option.getD_some] at e1 e2
  rw [List.getElem_set, e2, setF_eq]
  by_cases h : t = i
  · rw [if_pos h, if_pos h.symm]
  · rw [if_neg h, if_neg fun e => h e.symm, e1]
/-- Bytes. -/
def isBs (l : List Int) : Prop := ∀ z ∈ l, 0 ≤ z ∧ z < 256
theorem isBs_nil : isBs [] := fun z h => absurd h List.not_mem_nil
theorem isBs_app {a b : List Int} (ha : isBs a) (hb : isBs b) : isBs (a ++ b) := fun z h => (List.mem_append.1 h).elim (ha z) (hb z)
theorem isBs_take {a : List Int} (n : Nat) (ha : isBs a) : isBs (a.take n) := fun z h => ha z (List.mem_of_mem_take h)
theorem isBs_drop {a : List Int} (n : Nat) (ha : isBs a) : isBs (a.drop n) := fun z h => ha z (List.mem_of_mem_drop h)
theorem isBs_cut {a : List Int} (o n : Nat) (ha : isBs a) : isBs (cutI a o n) := by
  rw [cutI_eq]
  exact isBs_take _ (isBs_drop _ ha)
theorem isBs_keyL {n : Nat} {f : Nat → Int} (h : ∀ i, i < n → 0 ≤ f i ∧ f i < 256) : isBs (keyL n f) := fun z hz => by
  unfold keyL at hz
  rw [upTo_range] at hz
  simp only [List.mem_map, List.mem_range] at hz
  obtain ⟨_, ⟨i, hi, rfl⟩, rfl⟩ := hz
  rw [Nat.zero_add]
  exact h i hi
end Go.Proofs.YtpefomdegbmecaaDoor.Am
/- Whether two rows of bytes are the same. Conditions: none. -/
namespace Go.Proofs.YtpefomdegbmecaaDoor.Am
set_option linter.unusedVariables false
set_option linter.unusedSimpArgs false
open Go Go.RowKit
set_option linter.unusedSectionVars false
variable [GT]
noncomputable abbrev fSm : Func := Tryd.f22
def smB (a b : List Int) : List CB := [.sl .u8 a, .sl .u8 b]
def smS (a b : List Int) (z : Int) (i : Nat) : St := { tm := tmL 31 [(0, .av (.one (.r 0 0 a.length 0))), (1, .av (.one (.r 1 0 b.length 0))), (5, ofV (.int .u8 z)), (13, ofV (.int .i64 (a.length : Int))), (14, ofV (.int .i64 (i : Nat)))], hp := [(0, ⟨2, 0, [.arr .u8 a]⟩), (1, ⟨2, 0, [.arr .u8 b]⟩)], nx := 2, gl := [] }
def smE (b : Bool) : St := { tm := tmL 31 [(4, ofV (.bool b))], hp := [], nx := 0, gl := [] }
theorem sm_no (κ : Nat → Value) (a b : List Int) : runF tyT [] (atH 1 4 (isB true) noH) [] 0 [] [4] fSm (bA (smB a b) 0 0) (bH κ (smB a b) 0 0) 2 [] = some ([.fin], smE false, [tB ((a.length : Int) != (b.length : Int)) true]) := by kernel_rfl
theorem sm_start (κ : Nat → Value) (a b : List Int) : runF tyT [] (atH 1 4 (isB false) noH) [] 0 [0, 1] [0, 1, 5, 13, 14] fSm (bA (smB a b) 0 0) (bH κ (smB a b) 0 0) 2 [] = some (toAt fSm 5 [], smS a b 0 0, [tB ((a.length : Int) != (b.length : Int)) false]) := by kernel_rfl
theorem sm_go (a b : List Int) (z : Int) (i k_ : Nat) : runN tyT [] (atH 5 0 (isB true) (atH 7 3 symH (atH 7 4 symH (atH 7 7 symH (atH 7 8 symH (atH 8 0 (isI .i64 ((i + 1 : Nat) : Int)) noH)))))) [] 2000 0 [0, 1] [0, 1, 5, 13, 14] (inAt fSm 5 [] k_) (smS a b z i) = some (hdAt fSm 5 [] k_, smS a b (ior .u8 z (ixor .u8 (a.getD i 0) (b.getD i 0))) (i + 1), [tB (decide ((i : Int) < (a.length : Int))) true, 0 + a.length ≤ widths [Seg.arr .u8 a], 0 ≤ (i : Int) ∧ i ≤ a.length - 1, 1 ≤ a.length, i < a.length, 0 + b.length ≤ widths [Seg.arr .u8 b], 0 ≤ (i : Int) ∧ i ≤ b.length - 1, 1 ≤ b.length, i < b.length, tI .i64 (IntKind.wrap .i64 ((i : Int) + 1)) ((i + 1 : Nat) : Int)]) := by kernel_rfl
theorem sm_end (a b : List Int) (z : Int) (i k_ : Nat) : runN tyT [] (atH 5 0 (isB false) noH) [] 2000 0 [] [4] (inAt fSm 5 [] k_) (smS a b z i) = some ([.fin], smE (z == 0), [tB (decide ((i : Int) < (a.length : Int))) false]) := by kernel_rfl
theorem smwB_def (z : Int) : IntKind.wrap .u8 z = z % 256 := by
  simp [IntKind.wrap, IntKind.signed, IntKind.bits]
theorem smwB_in (z : Int) : 0 ≤ IntKind.wrap .u8 z ∧ IntKind.wrap .u8 z < 256 := by
  rw [smwB_def]
  exact ⟨by omega, by omega⟩
theorem smg2_in {b : List Int} (hb : ∀ z ∈ b, 0 ≤ z ∧ z < 256) (i : Nat) : 0 ≤ g2 b i ∧ g2 b i < 256 := by
  unfold g2
  rw [List.getD_eq_getElem?_getD]
  rcases h : b[i]? with _ | z
  · exact ⟨by decide, by decide⟩
  · exact hb z (List.mem_of_getElem? h)
def V8 (z : Int) : BitVec 8 := BitVec.ofInt 8 z
theorem toNat_wB8 (v : BitVec 8) : IntKind.wrap .u8 (v.toNat : Int) = v.toNat := by
  have := v.isLt
  rw [smwB_def]
  omega
theorem V8_toNat {z : Int} (h0 : 0 ≤ z) (h1 : z < 256) : ((V8 z).toNat : Int) = z := by
  unfold V8
  rw [BitVec.toNat_ofInt]
  omega
theorem ixor8_zero {x y : Int} (hx : 0 ≤ x ∧ x < 256) (hy : 0 ≤ y ∧ y < 256) : ixor .u8 x y = 0 ↔ x = y := by
  have e : ixor .u8 x y = ((V8 x ^^^ V8 y).toNat : Int) := toNat_wB8 _
  rw [e]
  constructor
  · intro h
    have h1 : V8 x ^^^ V8 y = 0#8 := by
      apply BitVec.eq_of_toNat_eq
      have h2 : (V8 x ^^^ V8 y).toNat = 0 := by omega
      rw [h2]
      rfl
    have h3 : V8 x = V8 y := by
      have := congrArg (fun v => v ^^^ V8 y) h1
      simpa [BitVec.xor_assoc] using this
    rw [← V8_toNat hx.1 hx.2, h3, V8_toNat hy.1 hy.2]
  · rintro rfl
    rw [BitVec.xor_self]
    rfl
theorem ior8_zero {x y : Int} (hx : 0 ≤ x ∧ x < 256) (hy : 0 ≤ y ∧ y < 256) : ior .u8 x y = 0 ↔ x = 0 ∧ y = 0 := by
  have e : ior .u8 x y = ((V8 x ||| V8 y).toNat : Int) := toNat_wB8 _
  rw [e, BitVec.toNat_or]
  have a1 := V8_toNat hx.1 hx.2
  have a2 := V8_toNat hy.1 hy.2
  constructor
  · intro h
    have h1 : (V8 x).toNat ||| (V8 y).toNat = 0 := by omega
    have := Nat.or_eq_zero_iff.1 h1
    omega
  · rintro ⟨rfl, rfl⟩
    rfl
def foS (a b : List Int) : Nat → Int
  | 0 => 0
  | i + 1 => ior .u8 (foS a b i) (ixor .u8 (a.getD i 0) (b.getD i 0))
theorem foS_in (a b : List Int) : ∀ i, 0 ≤ foS a b i ∧ foS a b i < 256
  | 0 => ⟨Int.le_refl 0, by show (0 : Int) < 256; decide⟩
  | i + 1 => smwB_in _
theorem foS_zero {a b : List Int} (ha : isBs a) (hb : isBs b) : ∀ i, foS a b i = 0 ↔ ∀ j, j < i → a.getD j 0 = b.getD j 0
  | 0 => ⟨fun _ j h => absurd h (Nat.not_lt_zero j), fun _ => rfl⟩
  | i + 1 => by
    show ior .u8 _ _ = 0 ↔ _
    have e1 := ior8_zero (x := foS a b i) (y := ixor .u8 (a.getD i 0) (b.getD i 0)) (foS_in a b i) (smwB_in _)
    have e2 := ixor8_zero (smg2_in ha i) (smg2_in hb i)
    have e3 := foS_zero ha hb i
    unfold g2 at e2
    rw [e1, e3, e2]
    constructor
    · rintro ⟨h1, h2⟩ j hj
      rcases Nat.lt_succ_iff_lt_or_eq.1 hj with h | rfl
      · exact h1 j h
      · exact h2
    · intro h
      exact ⟨fun j hj => h j (by omega), h i (Nat.lt_succ_self i)⟩
theorem same_iff {a b : List Int} (ha : isBs a) (hb : isBs b) (hl : a.length = b.length) : foS a b a.length = 0 ↔ a = b := by
  rw [foS_zero ha hb]
  constructor
  · intro h
    refine List.ext_getElem hl fun j h1 h2 => ?_
    have := h j h1
    rw [List.getD_eq_getElem?_getD, List.getD_eq_getElem?_getD, List.getElem?_eq_getElem h1, List.getElem?_eq_getElem h2] at this
    exact this
  · rintro rfl j _
    rfl
theorem sm_rounds (a b : List Int) (hl : a.length = b.length) (hm : a.length ≤ 1000000) : ∀ (k i : Nat), i + k = a.length → Reaches Tryd.prog 0 (hdAt fSm 5 [] (k + 1)) (smS a b (foS a b i) i) [.fin] (smE (foS a b a.length == 0))
  | 0, i, h => by
    obtain rfl : i = a.length := by omega
    refine Reaches.oneK (Reaches.runK tyT_ok nil_ok mixed_ (sm_end a b _ a.length 0) ?_)
    simp only [allP_cons, allP_nil, and_true, tB_nlt]
    omega
  | k + 1, i, h => by
    refine (Reaches.oneK (Reaches.runK tyT_ok nil_ok mixed_ (sm_go a b (foS a b i) i (k + 1)) ?_)).trans (sm_rounds a b hl hm k (i + 1) (by omega))
    have e5 := w64 (z := ((i : Nat) : Int) + 1) (by omega) (by omega)
    simp only [allP_cons, allP_nil, and_true, true_and, tB_lt, tI_iff, widths_o]
    omega
def smF : List CB → Option BR
  | [.sl .u8 a, .sl .u8 b] => some { pre := isBs a ∧ isBs b ∧ a.length ≤ 1000000, val := .av (.one (.v (.bool (decide (a = b))))) }
  | _ => none
theorem sm_ends (cbs : List CB) (r : BR) (hF : smF cbs = some r) (hp : r.pre) : EndsB Tryd.prog tyT [] fSm cbs r := by
  unfold smF at hF
  split at hF
  · rename_i a b
    injection hF with hF
    subst hF
    obtain ⟨ha, hb, hm⟩ : isBs a ∧ isBs b ∧ a.length ≤ 1000000 := hp
    intro κ
    have h : FromK Tryd.prog 0 fSm (bA (smB a b) 0 0) (bH κ (smB a b) 0 0) 2 [] [.fin] (smE (decide (a = b))) := by
      by_cases hl : a.length = b.length
      · have hr := Reaches.roundsK (a.length + 1) (sm_rounds a b hl hm a.length 0 (Nat.zero_add _))
        have e : (foS a b a.length == 0) = decide (a = b) := by
          rw [Bool.eq_iff_iff, beq_iff_eq, decide_eq_true_iff]
          exact same_iff ha hb hl
        rw [e] at hr
        refine (FromK.run (m0 := 0) tyT_ok nil_ok mixed_ (sm_start κ a b) ?_).trans hr
        simp only [allP_cons, allP_nil, and_true, tB_nne]
        omega
      · have hst := sm_no κ a b
        have e : decide (a = b) = false := decide_eq_false fun e => hl (by rw [e])
        rw [e]
        refine FromK.run (m0 := 0) tyT_ok nil_ok mixed_ hst ?_
        simp only [allP_cons, allP_nil, and_true, tB_ne]
        omega
    exact ⟨[.fin], _, .av (.one (.v (.bool (decide (a = b))))), [], .inr rfl, h, by kernel_rfl, by kernel_rfl, by kernel_rfl⟩
  · cases hF
theorem same_ent (sh : List ShB) (hs : sh.length = 2 := by rfl) : EntOK Tryd.prog 22 (entB sh smF) :=
  ok_B tyT_ok Tryd.func22 (by kernel_rfl) (by kernel_rfl) [] (fun x hx => by cases hx) (by rw [hs]; kernel_rfl) sm_ends
end Go.Proofs.YtpefomdegbmecaaDoor.Am
/- Contracts by values: of functions that neither read nor write a block. Conditions: none. -/
namespace Go.Proofs.YtpefomdegbmecaaDoor.Am
set_option linter.unusedVariables false
set_option linter.unusedSimpArgs false
open Go Go.RowKit
set_option linter.unusedSectionVars false
section
variable [GT]
/-- A function of values to a value, under a condition. -/
def vEnt (F : List SV → Option (SV × Asm)) : Ent := fun args _ _ => match F args with
  | some (v, p) => some { val := v, asm := p }
  | none => none
theorem ok_V {O : List (Nat × Ent)} (hO : OOK Tryd.prog O) {f : FuncId} {fn : Func} (hf : Tryd.prog.funcs[f]? = some fn) (hname : (fn.name == "runtime.NumGoroutine") = false) (hbs : fn.body.isSome = true) {F : List SV → Option (SV × Asm)} (h : ∀ args v p, F args = some (v, p) → p.holds → ∃ H LH fuel ps, wholeV tyT O H LH fuel fn args = some (v, ps) ∧ AllP ps ∧ args.all (svB fun _ => false) = true ∧ svB (fun _ => false) v = true ∧ Nat.ble args.length fn.ntmps = true) : EntOK Tryd.prog f (vEnt F) := by
  refine ⟨⟨fn, hf, hname, hbs⟩, fun args G base res hr ha ρ D N M w hG hin hfr => ?_⟩
  unfold vEnt at hr
  split at hr
  · rename_i v p hF
    simp only [Option.some.injEq] at hr
    subst hr
    obtain ⟨H, LH, fuel, ps, hrun, hps, hb, hv, hlen⟩ := h args v p hF ha
    exact ent_val (am_val tyT_ok hO mixed_ hf hlen hrun hps hb hv ρ w hG.gwc) hG rfl rfl rfl
  · cases hr
end
end Go.Proofs.YtpefomdegbmecaaDoor.Am
/- Strings of bytes: equal only where the bytes are (plain law). Conditions: none. -/
namespace Go.Proofs.YtpefomdegbmecaaDoor.Am
set_option linter.unusedVariables false
set_option linter.unusedSimpArgs false
open Go
theorem loop_eq (b : ByteArray) : ∀ (n i : Nat) (r : List UInt8), b.size - i = n → ByteArray.toList.loop b i r = r.reverse ++ b.data.toList.drop i
  | 0, i, r, h => by
    rw [ByteArray.toList.loop, if_neg (by omega), List.drop_eq_nil_of_le (by have : b.data.toList.length = b.size := rfl; omega), List.append_nil]
  | n + 1, i, r, h => by
    have hi : i < b.size := by omega
    rw [ByteArray.toList.loop, if_pos hi, loop_eq b n (i + 1) _ (by omega), List.reverse_cons, List.append_assoc]
    congr 1
    have hl : i < b.data.toList.length := hi
    rw [List.drop_eq_getElem_cons hl]
    simp [ByteArray.get!, hi]
theorem toList_eq (b : ByteArray) : b.toList = b.data.toList := by
  unfold ByteArray.toList
  rw [loop_eq b _ 0 [] rfl]
  rfl
theorem strOf_inj {a b : List Int} (ha : isBs a) (hb : isBs b) (h : (strOf a).toList = (strOf b).toList) : a = b := by
  rw [toList_eq, toList_eq] at h
  have h2 : a.map (fun z => UInt8.ofNat z.toNat) = b.map fun z => UInt8.ofNat z.toNat := h
  have h3 : ∀ {l : List Int}, isBs l → (l.map fun z => UInt8.ofNat z.toNat).map (fun u => (u.toNat : Int)) = l := fun {l} hl => by
    rw [List.map_map]
    refine (List.map_congr_left fun z hz => ?_).trans (List.map_id l)
    have := hl z hz
    show ((UInt8.ofNat z.toNat).toNat : Int) = z
    have e : (UInt8.ofNat z.toNat).toNat = z.toNat % 256 := rfl
    rw [e]
    omega
  rw [← h3 ha, h2, h3 hb]
end Go.Proofs.YtpefomdegbmecaaDoor.Am
/- Law 12: whether two keys are the same; new ones of Local kinds; its fixed fact. Conditions: none. -/
namespace Go.Proofs.YtpefomdegbmecaaDoor.Am
set_option linter.unusedVariables false
set_option linter.unusedSimpArgs false
open Go Go.RowKit
set_option linter.unusedSectionVars false
theorem bytesOf_bs (s : ByteArray) : isBs (bytesOf s) := fun z hz => by
  unfold bytesOf at hz
  rw [List.mem_map] at hz
  obtain ⟨b, _, rfl⟩ := hz
  have := b.toNat_lt
  omega
theorem bytesOf_len (s : ByteArray) : (bytesOf s).length = s.size := by
  unfold bytesOf
  rw [List.length_map]
  rfl
theorem bytesOf_strOf {l : List Int} (h : isBs l) : bytesOf (strOf l) = l := by
  show ((l.map fun z => UInt8.ofNat z.toNat).toArray.toList).map (fun b => (b.toNat : Int)) = l
  rw [List.map_map]
  refine (List.map_congr_left fun z hz => ?_).trans (List.map_id l)
  have := h z hz
  show ((UInt8.ofNat z.toNat).toNat : Int) = z
  have e : (UInt8.ofNat z.toNat).toNat = z.toNat % 256 := rfl
  rw [e]
  omega
section
variable [GT]
noncomputable abbrev fKs : Func := Tryd.f11
noncomputable def ksO : List (Nat × Ent) := [(12, eKb), (22, entB [.sl .u8, .sl .u8] smF)]
theorem ksO_ok : OOK Tryd.prog ksO := ook_of (l := [(12, eKb), (22, entB [.sl .u8, .sl .u8] smF)]) ⟨kb_ent, same_ent _, trivial⟩
def keyV (v p : Int) (s : ByteArray) : SV := .av (.agg [.v (.int .i64 v), .v (.int .i64 p), .v (.string s)])
theorem ks_yes (v p v1 p1 : Int) (x y : ByteArray) : wholeV tyT ksO (atH 1 5 (isB true) noH) [] 2000 fKs [keyV v p x, keyV v1 p1 y] = some (ofV (.bool (decide (cutI (bytesOf x) 0 (bytesOf x).length = cutI (bytesOf y) 0 (bytesOf y).length))), [tB (v == v1 && (p == p1 && true)) true, 0 + (bytesOf x).length ≤ (bytesOf x).length, 0 + (bytesOf y).length ≤ (bytesOf y).length, isBs (cutI (bytesOf x) 0 (bytesOf x).length) ∧ isBs (cutI (bytesOf y) 0 (bytesOf y).length) ∧ (cutI (bytesOf x) 0 (bytesOf x).length).length ≤ 1000000]) := by kernel_rfl
theorem ks_no (v p v1 p1 : Int) (x y : ByteArray) : wholeV tyT ksO (atH 1 5 (isB false) noH) [] 2000 fKs [keyV v p x, keyV v1 p1 y] = some (ofV (.bool false), [tB (v == v1 && (p == p1 && true)) false]) := by kernel_rfl
def vKs : List SV → Option (SV × Asm)
  | [.av (.agg [.v (.int .i64 v), .v (.int .i64 p), .v (.string x)]), .av (.agg [.v (.int .i64 v1), .v (.int .i64 p1), .v (.string y)])] => some (ofV (.bool (decide (v = v1) && (decide (p = p1) && decide (bytesOf x = bytesOf y)))), .say ((bytesOf x).length ≤ 1000000))
  | _ => none
theorem ks_ent : EntOK Tryd.prog 11 (vEnt vKs) := ok_V ksO_ok Tryd.func11 (by kernel_rfl) (by kernel_rfl) fun args v p hF hp => by
  unfold vKs at hF
  split at hF
  · rename_i v p x v1 p1 y
    simp only [Option.some.injEq, Prod.mk.injEq] at hF
    obtain ⟨rfl, rfl⟩ := hF
    have hp' : (bytesOf x).length ≤ 1000000 := hp
    by_cases h : v = v1 ∧ p = p1
    · obtain ⟨rfl, rfl⟩ := h
      have hr := ks_yes v p v p x y
      rw [cutI_all, cutI_all] at hr
      have e : (decide (v = v) && (decide (p = p) && decide (bytesOf x = bytesOf y))) = decide (bytesOf x = bytesOf y) := by simp
      rw [e]
      exact ⟨_, _, _, _, hr, ⟨tB_iff.2 (by simp), Nat.le_of_eq (Nat.zero_add _), Nat.le_of_eq (Nat.zero_add _), ⟨bytesOf_bs x, bytesOf_bs y, hp'⟩, trivial⟩, rfl, rfl, by kernel_rfl⟩
    · have e1 : (v == v1 && (p == p1 && true)) = false := by
        rw [Bool.and_true]
        cases h1 : (v == v1 && p == p1) with
        | false => rfl
        | true =>
          simp at h1
          exact absurd h1 h
      have e : (decide (v = v1) && (decide (p = p1) && decide (bytesOf x = bytesOf y))) = false := by
        cases h1 : (decide (v = v1) && (decide (p = p1) && decide (bytesOf x = bytesOf y))) with
        | false => rfl
        | true =>
          simp at h1
          exact absurd ⟨h1.1, h1.2.1⟩ h
      rw [e]
      exact ⟨_, _, _, _, ks_no v p v1 p1 x y, ⟨tB_iff.2 e1, trivial⟩, rfl, rfl, by kernel_rfl⟩
  · cases hF
/-- New keys of Local kinds, of 32 bytes; and of a kind that there isn't. -/
noncomputable abbrev fNw : Func := Tryd.f9
noncomputable def nwO : List (Nat × Ent) := [(20, eSizes)]
theorem nwO_ok : OOK Tryd.prog nwO := ook_of (l := [(20, eSizes)]) ⟨sizes_ent, trivial⟩
noncomputable def eNw : Ent := inl tyT nwO noH [] 2000 fNw []
theorem eNw_ok : EntOK Tryd.prog 9 eNw := inl_ok tyT_ok nwO_ok mixed_ Tryd.func9 (by kernel_rfl) (by kernel_rfl) []
noncomputable def eIx : Ent := inl tyT [] noH [(2, 3)] 2000 Tryd.f28 []
theorem eIx_ok : EntOK Tryd.prog 28 eIx := inl_ok tyT_ok nil_ok mixed_ Tryd.func28 (by kernel_rfl) (by kernel_rfl) []
noncomputable def coO : List (Nat × Ent) := [(28, eIx)]
theorem coO_ok : OOK Tryd.prog coO := ook_of (l := [(28, eIx)]) ⟨eIx_ok, trivial⟩
noncomputable def eCo : Ent := inl tyT coO noH [] 2000 Tryd.f23 []
theorem eCo_ok : EntOK Tryd.prog 23 eCo := inl_ok tyT_ok coO_ok mixed_ Tryd.func23 (by kernel_rfl) (by kernel_rfl) []
noncomputable def isO : List (Nat × Ent) := [(23, eCo)]
theorem isO_ok : OOK Tryd.prog isO := ook_of (l := [(23, eCo)]) ⟨eCo_ok, trivial⟩
noncomputable def eIs : Ent := inl tyT isO noH [] 2000 Tryd.f16 []
theorem eIs_ok : EntOK Tryd.prog 16 eIs := inl_ok tyT_ok isO_ok mixed_ Tryd.func16 (by kernel_rfl) (by kernel_rfl) []
noncomputable abbrev fAw12 : Func := Tryd.f8
noncomputable def awO12 : List (Nat × Ent) := [(9, eNw), (16, eIs)]
theorem awO12_ok : OOK Tryd.prog awO12 := ook_of (l := [(9, eNw), (16, eIs)]) ⟨eNw_ok, eIs_ok, trivial⟩
theorem aw12_run : wholeV tyT awO12 noH [] 2000 fAw12 [] = some (ofV (.bool true), []) := by kernel_rfl
def vAw12 : List SV → Option (SV × Asm)
  | [] => some (ofV (.bool true), .tt)
  | _ => none
theorem aw12_ent : EntOK Tryd.prog 8 (vEnt vAw12) := ok_V awO12_ok Tryd.func8 (by kernel_rfl) (by kernel_rfl) fun args v p hF hp => by
  unfold vAw12 at hF
  split at hF
  · simp only [Option.some.injEq, Prod.mk.injEq] at hF
    obtain ⟨rfl, rfl⟩ := hF
    exact ⟨_, _, _, _, aw12_run, trivial, rfl, rfl, by kernel_rfl⟩
  · cases hF
end
end Go.Proofs.YtpefomdegbmecaaDoor.Am
/- The law KeyOthers. Conditions: none. -/
namespace Go.Proofs.YtpefomdegbmecaaDoor.Am
set_option linter.unusedVariables false
set_option linter.unusedSimpArgs false
open Go Go.RowKit
set_option linter.unusedSectionVars false
section
variable [GT]
noncomputable abbrev fKo : Func := Tryd.f4
noncomputable def koO : List (Nat × Ent) := [(8, vEnt vAw12), (9, eNw), (11, vEnt vKs)]
theorem koO_ok : OOK Tryd.prog koO := ook_of (l := [(8, vEnt vAw12), (9, eNw), (11, vEnt vKs)]) ⟨aw12_ent, eNw_ok, ks_ent, trivial⟩
def koArgs (f : Nat → Int) (a y : Int) : List SV := [.av (.one (.arr .u8 (keyL 32 f))), .av (.one (.v (.int .u8 a))), .av (.one (.v (.int .u8 y)))]
theorem ko_run (f : Nat → Int) (a y : Int) : ∀ t : Nat, t < 32 → wholeV tyT koO (atH 4 1 (isI .u8 (t : Int)) (atH 8 18 (isB true) noH)) [] 100000 fKo (koArgs f a y) = some (ofV (.bool true), [tI .u8 (Int.tmod a 32) t, 32 ≤ 1000000, tB ((true && (true && decide (bytesOf (strOf (keyL 32 f)) = bytesOf (strOf (keyL 32 (setF f t (ixor .u8 (f t) y))))))) == (y == 0)) true, 32 ≤ 1000000, 32 ≤ 1000000])
  | 0, _ => by kernel_rfl
  | 1, _ => by kernel_rfl
  | 2, _ => by kernel_rfl
  | 3, _ => by kernel_rfl
  | 4, _ => by kernel_rfl
  | 5, _ => by kernel_rfl
  | 6, _ => by kernel_rfl
  | 7, _ => by kernel_rfl
  | 8, _ => by kernel_rfl
  | 9, _ => by kernel_rfl
  | 10, _ => by kernel_rfl
  | 11, _ => by kernel_rfl
  | 12, _ => by kernel_rfl
  | 13, _ => by kernel_rfl
  | 14, _ => by kernel_rfl
  | 15, _ => by kernel_rfl
  | 16, _ => by kernel_rfl
  | 17, _ => by kernel_rfl
  | 18, _ => by kernel_rfl
  | 19, _ => by kernel_rfl
  | 20, _ => by kernel_rfl
  | 21, _ => by kernel_rfl
  | 22, _ => by kernel_rfl
  | 23, _ => by kernel_rfl
  | 24, _ => by kernel_rfl
  | 25, _ => by kernel_rfl
  | 26, _ => by kernel_rfl
  | 27, _ => by kernel_rfl
  | 28, _ => by kernel_rfl
  | 29, _ => by kernel_rfl
  | 30, _ => by kernel_rfl
  | 31, _ => by kernel_rfl
  | t + 32, h => absurd h (by omega)
end
end Go.Proofs.YtpefomdegbmecaaDoor.Am
/- The law KeyOthers: what its runs ask for. Conditions: none. -/
namespace Go.Proofs.YtpefomdegbmecaaDoor.Am
set_option linter.unusedVariables false
set_option linter.unusedSimpArgs false
open Go Go.RowKit
set_option linter.unusedSectionVars false
section
variable [GT]
theorem xor_self_iff {x y : Int} (hx : 0 ≤ x ∧ x < 256) (hy : 0 ≤ y ∧ y < 256) : ixor .u8 x y = x ↔ y = 0 := by
  have e : ixor .u8 x y = ((V8 x ^^^ V8 y).toNat : Int) := toNat_wB8 _
  rw [e]
  constructor
  · intro h
    have h1 : V8 x ^^^ V8 y = V8 x := by
      apply BitVec.eq_of_toNat_eq
      have := V8_toNat hx.1 hx.2
      omega
    have h2 : V8 y = 0#8 := by
      have h3 : V8 x ^^^ (V8 x ^^^ V8 y) = V8 x ^^^ V8 x := by rw [h1]
      rw [← BitVec.xor_assoc, BitVec.xor_self, BitVec.zero_xor] at h3
      exact h3
    have h4 := V8_toNat hy.1 hy.2
    rw [h2] at h4
    exact h4.symm
  · rintro rfl
    have : V8 0 = 0#8 := rfl
    rw [this, BitVec.xor_zero]
    exact V8_toNat hx.1 hx.2
theorem xor8_in (x y : Int) : 0 ≤ ixor .u8 x y ∧ ixor .u8 x y < 256 := by
  have e : ixor .u8 x y = ((V8 x ^^^ V8 y).toNat : Int) := toNat_wB8 _
  rw [e]
  have := (V8 x ^^^ V8 y).isLt
  omega
theorem wf_bs4 {bs : List Int} (hw : ∀ z ∈ bs, (Lit.int .u8 z).wf = true) : isBs bs := fun z hz => by
  have h := hw z hz
  simp [Lit.wf, IntKind.min, IntKind.max, IntKind.signed, IntKind.bits] at h
  omega
theorem lawKeyOthers_fact (bs : List Int) (hl : bs.length = 32) (hw : ∀ z ∈ bs, (Lit.int .u8 z).wf = true) (a : Int) (wa : (Lit.int .u8 a).wf = true) (y : Int) (wy : (Lit.int .u8 y).wf = true) (w : World) (hgw : GWok w.heap.size [] w) : Calls Tryd.prog 4 #[.agg (bs.map (Value.int .u8)).toArray, .int .u8 a, .int .u8 y] w fun e w' => e = .returned (.bool true) ∧ Below w.heap.size w w' := by
  have hb : isBs bs := wf_bs4 hw
  have ha : 0 ≤ a ∧ a < 256 := wf_bs4 (bs := [a]) (fun z hz => by simp at hz; subst hz; exact wa) a (by simp)
  have hy : 0 ≤ y ∧ y < 256 := wf_bs4 (bs := [y]) (fun z hz => by simp at hz; subst hz; exact wy) y (by simp)
  obtain ⟨n, rfl⟩ : ∃ n : Nat, a = n := ⟨a.toNat, by omega⟩
  have ht : n % 32 < 32 := Nat.mod_lt _ (by decide)
  have hm : Int.tmod (n : Int) 32 = ((n % 32 : Nat) : Int) := by
    rw [Int.tmod_eq_emod_of_nonneg (by omega)]
    omega
  have hrun := ko_run (g2 bs) n y (n % 32) ht
  rw [hm] at hrun
  generalize n % 32 = t at ht hrun hm
  have hft := smg2_in hb t
  have h1 : isBs (keyL 32 (g2 bs)) := isBs_keyL fun i _ => smg2_in hb i
  have h2 : isBs (keyL 32 (setF (g2 bs) t (ixor .u8 (g2 bs t) y))) := isBs_keyL fun i _ => by
    rw [setF_eq]
    split
    · exact xor8_in _ _
    · exact smg2_in hb i
  have hiff : keyL 32 (g2 bs) = keyL 32 (setF (g2 bs) t (ixor .u8 (g2 bs t) y)) ↔ y = 0 := by
    rw [← xor_self_iff hft hy]
    constructor
    · intro h
      have e1 := keyL_get 32 (g2 bs) t ht
      rw [h, keyL_get 32 _ t ht, setF_eq, if_pos rfl] at e1
      exact e1
    · intro h
      rw [h]
      refine keyL_congr fun i _ => ?_
      rw [setF_eq]
      split
      · rename_i e; rw [e]
      · rfl
  have hc : ((true && (true && decide (bytesOf (strOf (keyL 32 (g2 bs))) = bytesOf (strOf (keyL 32 (setF (g2 bs) t (ixor .u8 (g2 bs t) y))))))) == (y == 0)) = true := by
    rw [bytesOf_strOf h1, bytesOf_strOf h2, Bool.true_and, Bool.true_and]
    by_cases h : y = 0
    · rw [decide_eq_true (hiff.2 h), h]; rfl
    · rw [decide_eq_false (fun e => h (hiff.1 e))]
      have : (y == 0) = false := by simpa using h
      rw [this]; rfl
  unfold koArgs at hrun
  generalize hL : keyL 32 (setF (g2 bs) t (ixor .u8 (g2 bs t) y)) = L at hrun hc
  rw [keyL_g2 hl] at hrun hc
  exact am_val tyT_ok koO_ok mixed_ Tryd.func4 (by kernel_rfl) hrun ⟨tI_iff.2 rfl, by decide, tB_iff.2 hc, by decide, by decide, trivial⟩ (by kernel_rfl) (by kernel_rfl) (fun _ => ⟨none, 0⟩) w hgw
end
end Go.Proofs.YtpefomdegbmecaaDoor.Am
/- Opening arrays of bytes, and rows of them, at a law's call. Conditions: none. -/
set_option maxRecDepth 100000
namespace Go.Proofs.YtpefomdegbmecaaDoor
set_option linter.unusedVariables false
set_option linter.unusedSimpArgs false
open Go Go.ChangeShapes Go.WideShapes Go.ChangeAt Go.RowKit

theorem own_ : ownKnob Tryd.prog.godebug = none := by kernel_rfl
theorem laidOut_ : laidOutB Tryd.prog = true := by kernel_rfl
theorem ints_of {k : IntKind} : ∀ l : List Value, (∀ i, i < l.length → ∃ z, l[i]? = some (.int k z) ∧ (Lit.int k z).wf = true) → ∃ bs : List Int, l = bs.map (Value.int k) ∧ ∀ z ∈ bs, (Lit.int k z).wf = true
  | [], _ => ⟨[], rfl, by simp⟩
  | x :: l, h => by
    obtain ⟨z, hz, hw⟩ := h 0 (by simp)
    obtain ⟨bs, hb, hbw⟩ := ints_of l fun i hi => by
      obtain ⟨z, hz, hw⟩ := h (i + 1) (by simp; omega)
      exact ⟨z, by simpa using hz, hw⟩
    simp only [List.getElem?_cons_zero, Option.some.injEq] at hz
    subst hz
    refine ⟨z :: bs, by rw [hb]; rfl, fun y hy => ?_⟩
    rcases List.mem_cons.1 hy with rfl | hy
    · exact hw
    · exact hbw y hy
/-- An array of integers that comes in. -/
theorem open_arr {H : Type} {enc : TypeId × Value → H} {W : World} {base : Nat} {b0 : Nat} {spare : Nat → Bool} {held : Bool} {v : Value} {d : DataW H} {ps : List MemPlace} {t e : TypeId} {n : Nat} {k : IntKind}
    (ht : Tryd.prog.underlying t = some (.array n e)) (he : Tryd.prog.underlying e = some (.int k)) (hct : Tryd.prog.cellsOf t = n) (hce : Tryd.prog.cellsOf e = 1)
    (hval : Value.okWide Tryd.prog W .any b0 t v) (h : DataW.Trod enc Tryd.prog W base spare held t v d ps) :
    ∃ bs : List Int, bs.length = n ∧ (∀ z ∈ bs, (Lit.int k z).wf = true) ∧ v = .agg (bs.map (Value.int k)).toArray := by
  obtain ⟨cs, rfl, hsz, _⟩ : ∃ cs, v = .agg cs ∧ cs.size = Tryd.prog.cellsOf t ∧ Row.okWide Tryd.prog W .any b0 t cs := by
    simpa [Value.okWide, ht] using hval
  rw [hct] at hsz
  obtain ⟨fuel, hf⟩ := h
  obtain ⟨xs, m, _, _, hl, hxs, hel⟩ := DataW.trod_array ht hf
  obtain ⟨l⟩ := cs
  have hl' : l.length = n := hsz
  have hc : (Value.agg ⟨l⟩).cells.toList = l := rfl
  obtain ⟨bs, hb, hw⟩ := ints_of (k := k) l fun i hi => by
    have := hel i (by omega)
    rw [hc, hce, Nat.mul_one, List.getElem?_eq_getElem (by omega)] at this
    obtain ⟨z, hz, _, hzw⟩ := DataW.trod_int he this
    refine ⟨z, ?_, hzw⟩
    have h2 := congrArg (fun q => q[0]?) hz
    simpa [List.getElem?_take, List.getElem?_drop] using h2
  exact ⟨bs, by rw [hb] at hl'; simpa using hl', hw, by rw [hb]⟩

/-- What is known of a row of integers that came in. -/
def IsRow (k : IntKind) (w : World) (a : Option Addr) (len cap : Nat) (zs : List Int) : Prop :=
  (a = none ∧ len = 0 ∧ cap = 0 ∧ zs = []) ∨
  ∃ x, a = some x ∧ len ≤ cap ∧ cap ≤ maxLen ∧ zs.length = cap ∧ (∀ i, i < zs.length → w.cell? (x.add i) = some (.int k (zs.getD i 0))) ∧ ∀ n ∈ zs, (Lit.int k n).wf = true

end Go.Proofs.YtpefomdegbmecaaDoor
/- Opening slices of integers at a law's call, as the machine takes them; and a law's call. Conditions: none. -/
set_option maxRecDepth 100000
namespace Go.Proofs.YtpefomdegbmecaaDoor
set_option linter.unusedVariables false
set_option linter.unusedSimpArgs false
open Go Go.ChangeShapes Go.WideShapes Go.ChangeAt Go.RowKit

theorem has_lt {P : Program} {w : World} {r : Reach} {base : Nat} {a : Addr} {e : TypeId} {n : Nat} (h : w.has P r base a e n) : a.block < w.heap.size := by
  obtain ⟨_, _, row, cells, hs, _⟩ := h
  unfold World.shape? at hs
  split at hs
  · rename_i hb
    exact (Array.getElem?_eq_some_iff.1 hb).1
  all_goals first | cases hs | (rename_i hb; exact (Array.getElem?_eq_some_iff.1 hb).1)
/-- A slice of integers that comes in. -/
theorem open_sl {H : Type} {enc : TypeId × Value → H} {W : World} {base : Nat} {b0 : Nat} {spare : Nat → Bool} {held : Bool} {v : Value} {d : DataW H} {ps : List MemPlace} {t e : TypeId} {k : IntKind}
    (ht : Tryd.prog.underlying t = some (.slice e)) (he : Tryd.prog.underlying e = some (.int k)) (hce : Tryd.prog.cellsOf e = 1)
    (hval : Value.okWide Tryd.prog W .any b0 t v) (h : DataW.Trod enc Tryd.prog W base spare held t v d ps) :
    ∃ a cap, ∃ zs : List Int, v = .slice a zs.length cap ∧ Am.RowAt W ⟨a, cap⟩ k zs ∧ ∀ z ∈ zs, (Lit.int k z).wf = true := by
  obtain ⟨a, len, cap, rfl⟩ := okWide_slice ht hval
  have hlt : ∀ x, a = some x → x.block < W.heap.size := fun x hx => by
    subst hx
    simp only [Value.okWide, ht, Cell.okWide, Cell.ok] at hval
    exact has_lt hval.2.2
  obtain ⟨fuel, hf⟩ := h
  rcases open_ints ht he hce hf with ⟨hcs, _⟩ | ⟨x, l, c, zs, hcs, _, hl, hm, hz, _, hcell, hwz⟩
  · simp [Value.cells] at hcs
    obtain ⟨rfl, rfl, rfl⟩ := hcs
    exact ⟨none, 0, [], rfl, ⟨Nat.le_refl _, .inl rfl, fun x hx => by cases hx⟩, by simp⟩
  · simp [Value.cells] at hcs
    obtain ⟨rfl, rfl, rfl⟩ := hcs
    have hzl : len ≤ zs.length := by rw [hz]; split <;> omega
    have hlen : (zs.take len).length = len := by rw [List.length_take]; omega
    refine ⟨some x, cap, zs.take len, by rw [hlen], ⟨by rw [hlen]; exact hl, .inr ⟨x, rfl, fun j u hj => ?_⟩, hlt⟩, fun z hz' => hwz z (List.mem_of_mem_take hz')⟩
    have hjl : j < len := by
      have := (List.getElem?_eq_some_iff.1 hj).1
      rw [List.length_map, hlen] at this; exact this
    rw [List.getElem?_map, List.getElem?_take, if_pos hjl, List.getElem?_eq_getElem (by omega)] at hj
    simp only [Option.map_some, Option.some.injEq] at hj
    subst hj
    have := hcell j (by omega)
    simpa [List.getD_eq_getElem?_getD, List.getElem?_eq_getElem (show j < zs.length by omega)] using this
end Go.Proofs.YtpefomdegbmecaaDoor
namespace Go.Proofs.YtpefomdegbmecaaDoor.Am
open Go Go.RowKit
variable [GT]
omit [GT] in
/-- Rows that come in, as blocks to be read. -/
def rowsH : List (Loc × IntKind × List Int) → Nat → List (Nat × Blk)
  | [], _ => []
  | (_, k, zs) :: l, n => (n, ⟨2, 0, [.arr k zs]⟩) :: rowsH l (n + 1)
omit [GT] in
theorem rowsH_spec : ∀ (l : List (Loc × IntKind × List Int)) (n i : Nat) (b : Blk), look (rowsH l n) i = some b → n ≤ i ∧ i < n + l.length ∧ ∃ x, l[i - n]? = some x ∧ b = ⟨2, 0, [.arr x.2.1 x.2.2]⟩
  | [], n, i, b, h => by cases h
  | (g, k, zs) :: l, n, i, b, h => by
    simp only [rowsH, look_cons] at h
    by_cases hi : n = i
    · subst hi
      rw [if_pos rfl] at h
      injection h with h
      subst h
      exact ⟨Nat.le_refl _, by simp, (g, k, zs), by simp, rfl⟩
    · rw [if_neg hi] at h
      obtain ⟨h1, h2, x, hx, hb⟩ := rowsH_spec l (n + 1) i b h
      refine ⟨by omega, by simp only [List.length_cons]; omega, x, ?_, hb⟩
      rw [show i - n = (i - (n + 1)) + 1 by omega, List.getElem?_cons_succ]
      exact hx
theorem hr_rows {w : World} (l : List (Loc × IntKind × List Int)) (h : ∀ x ∈ l, RowAt w x.1 x.2.1 x.2.2) (hgw : GWok w.heap.size [] w) : HR (fun i => (l.map (·.1)).getD i ⟨none, 0⟩) (· < l.length) w.heap.size [] (look (rowsH l 0)) w := by
  have hall : ∀ i b, look (rowsH l 0) i = some b → i < l.length ∧ ∃ k zs, b = ⟨2, 0, [.arr k zs]⟩ ∧ RowAt w ((l.map (·.1)).getD i ⟨none, 0⟩) k zs := fun i b hb => by
    obtain ⟨_, h2, x, hx, rfl⟩ := rowsH_spec _ _ _ _ hb
    rw [Nat.sub_zero] at hx
    refine ⟨by omega, _, _, rfl, ?_⟩
    have e : (l.map (·.1)).getD i ⟨none, 0⟩ = x.1 := by simp [List.getD_eq_getElem?_getD, hx]
    rw [e]
    exact h x (List.mem_of_getElem? hx)
  refine ⟨Nat.le_refl _, fun i b hb => ?_, fun i b x hb hx => ?_, fun i b x hb hk hx => ?_, fun i j bi bj x y hi hj hij hk hx hy => ?_, hgw⟩
  · obtain ⟨h2, k, zs, rfl, h3, h4, _⟩ := hall i b hb
    refine ⟨h2, fun s hs => (by simp at hs; subst hs; trivial), ?_⟩
    show (segsVals _ _).length ≤ _ ∧ _
    rw [segsVals_one]
    refine ⟨by simpa [Seg.vals] using h3, ?_⟩
    rcases h4 with rfl | h4
    · exact .inl rfl
    · exact .inr h4
  · obtain ⟨_, k, zs, rfl, _, _, h5⟩ := hall i b hb
    exact h5 x hx
  · obtain ⟨_, k, zs, rfl, _⟩ := hall i b hb
    simp at hk
  · obtain ⟨_, k, zs, rfl, _⟩ := hall i bi hi
    simp at hk
/-- A law's run that ends in true. -/
theorem law_reach {f : FuncId} {fn : Func} (hf : Tryd.prog.funcs[f]? = some fn) {avs : List SV} {hp : List (Nat × Blk)} {k : Nat} {todo : List AI} {st : St} (hR : From Tryd.prog fn avs hp k [] todo st) (hfin : todo = [] ∨ todo = [.fin]) (hv : resVal tyT st fn.results.toList = some (ofV (.bool true))) (hlen : Nat.ble avs.length fn.ntmps = true) (hin : avs.all (svB fun i => Nat.blt i k) = true) {ρc : Nat → Loc} {w : World} (hG : HR ρc (· < k) w.heap.size [] (look hp) w) :
    Calls Tryd.prog f (avs.map (SV.conc ρc)).toArray w fun e w' => e = .returned (.bool true) ∧ Below w.heap.size w w' := by
  obtain ⟨c, hc, hRe⟩ := hR
  exact reach_val tyT_ok hf hc hfin hRe hv (by rfl) hlen (fun s hs => svB_in (f := fun i => Nat.blt i k) (fun i h => Nat.le_of_ble_eq_true h) (List.all_eq_true.1 hin s hs)) hG (fun _ => ⟨none, 0⟩)
omit [GT] in
theorem conc_s0 {ρ : Nat → Loc} {i n cap : Nat} : SV.conc ρ (.av (.one (.s i 0 n cap))) = .slice (ρ i).a n cap := by
  simp only [SV.conc, AV.conc, Seg.conc]
  cases (ρ i).a <;> simp [Addr.add]
end Go.Proofs.YtpefomdegbmecaaDoor.Am
/- What a listed table's cells are, at a law's call. Conditions: none. -/
namespace Go.Proofs.YtpefomdegbmecaaDoor
set_option linter.unusedVariables false
set_option linter.unusedSimpArgs false
open Go
theorem laid_reads {P : Program} {w : World} : ∀ {l : List (String × DataW Unit)} {ps : List MemPlace}, DataW.LaidVars P w l ps → ∀ n d, (n, d) ∈ l →
    ∃ g t cs fuel p, P.globalNamed n = some g ∧ (P.globals[g]?).map (·.type) = some t ∧ w.var? P n = some cs ∧ DataW.trod (fun _ => ()) P w 0 (fun _ => true) false fuel t cs.toList = some (d, p)
  | [], _, _, _, _, hm => by cases hm
  | (n', d') :: r, ps, h, n, d, hm => by
    obtain ⟨g, t, cs, fuel, p, q, h1, h2, h3, h4, h5, _⟩ := h
    rcases List.mem_cons.1 hm with e | e
    · cases e
      exact ⟨g, t, cs, fuel, p, h1, h2, h3, h4⟩
    · exact laid_reads h5 n d e
/-- A listed table of integers stands in its block. -/
theorem laid_cells {W : World} {l : List (String × DataW Unit)} (h : laidMet Tryd.prog l W) {name : String} {g : Nat} {t e : TypeId} {n : Nat} {k : IntKind} {zs : List Int} (hm : (name, Lib.tabData k zs) ∈ l)
    (hg : Tryd.prog.globalNamed name = some g) (hty : (Tryd.prog.globals[g]?).map (·.type) = some t) (ht : Tryd.prog.underlying t = some (.array n e)) (he : Tryd.prog.underlying e = some (.int k)) (hce : Tryd.prog.cellsOf e = 1) (hct : Tryd.prog.cellsOf t = n) :
    g < W.heap.size ∧ g ∉ ([] : List Nat) ∧ ∃ cs ty mk, W.heap[g]? = some (.cells cs ty mk) ∧ cs.toList = zs.map (Value.int k) := by
  obtain ⟨_, hv, _⟩ := h
  obtain ⟨g', t', cs, fuel, p, h1, h2, h3, h4⟩ := laid_reads hv _ _ hm
  obtain rfl := Option.some.inj (hg.symm.trans h1)
  obtain rfl := Option.some.inj (hty.symm.trans h2)
  have hcs := Lib.cells_of_tab ht he hce hct h4
  unfold World.var? at h3
  rw [hg, Option.bind_some] at h3
  split at h3
  · rename_i cs' ty mk hh
    obtain rfl := Option.some.inj h3
    exact ⟨(Array.getElem?_eq_some_iff.1 hh).1, List.not_mem_nil, cs', ty, mk, hh, hcs⟩
  · cases h3
end Go.Proofs.YtpefomdegbmecaaDoor
/- The package's variables that are known: the sums' constants. Conditions: none. -/
namespace Go.Proofs.YtpefomdegbmecaaDoor.Am
set_option linter.unusedVariables false
set_option linter.unusedSimpArgs false
open Go
def kStart512 : List Int := [7640891576956012808, 13503953896175478587, 4354685564936845355, 11912009170470909681, 5840696475078001361, 11170449401992604703, 2270897969802886507, 6620516959819538809]
def kRounds : List Int := [4794697086780616226, 8158064640168781261, 13096744586834688815, 16840607885511220156, 4131703408338449720, 6480981068601479193, 10538285296894168987, 12329834152419229976, 15566598209576043074, 1334009975649890238, 2608012711638119052, 6128411473006802146, 8268148722764581231, 9286055187155687089, 11230858885718282805, 13951009754708518548, 16472876342353939154, 17275323862435702243, 1135362057144423861, 2597628984639134821, 3308224258029322869, 5365058923640841347, 6679025012923562964, 8573033837759648693, 10970295158949994411, 12119686244451234320, 12683024718118986047, 13788192230050041572, 14330467153632333762, 15395433587784984357, 489312712824947311, 1452737877330783856, 2861767655752347644, 3322285676063803686, 5560940570517711597, 5996557281743188959, 7280758554555802590, 8532644243296465576, 9350256976987008742, 10552545826968843579, 11727347734174303076, 12113106623233404929, 14000437183269869457, 14369950271660146224, 15101387698204529176, 15463397548674623760, 17586052441742319658, 1182934255886127544, 1847814050463011016, 2177327727835720531, 2830643537854262169, 3796741975233480872, 4115178125766777443, 5681478168544905931, 6601373596472566643, 7507060721942968483, 8399075790359081724, 8693463985226723168, 9568029438360202098, 10144078919501101548, 10430055236837252648, 11840083180663258601, 13761210420658862357, 14299343276471374635, 14566680578165727644, 15097957966210449927, 16922976911328602910, 17689382322260857208, 500013540394364858, 748580250866718886, 1242879168328830382, 1977374033974150939, 2944078676154940804, 3659926193048069267, 4368137639120453308, 4836135668995329356, 5532061633213252278, 6448918945643986474, 6902733635092675308, 7801388544844847127]
variable [GT]
/-- A table of constants is known. -/
class G512 [GT] : Prop where
  h : (0, kStart512.map (Value.int .u64)) ∈ GT.tab
/-- A table of constants is known. -/
class GRnd [GT] : Prop where
  h : (1, kRounds.map (Value.int .u64)) ∈ GT.tab
end Go.Proofs.YtpefomdegbmecaaDoor.Am
