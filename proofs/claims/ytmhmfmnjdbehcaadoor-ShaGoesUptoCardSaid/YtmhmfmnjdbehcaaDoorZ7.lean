/- slices.Grow of nil, slices.Concat of one, two or three parts. Conditions: none. -/
import Derived.Test.YtmhmfmnjdbehcaaDoorZ6
import Derived.Maps.AppendAt
import Derived.OwnWalk
import Derived.Lib.SliceRun
import Derived.Test.YtmhmfmnjdbehcaaDoorZ1
set_option linter.unusedSectionVars false
namespace Go.Proofs.YtmhmfmnjdbehcaaDoor.Am
set_option linter.unusedVariables false
set_option linter.unusedSimpArgs false
open Go Go.RowKit
set_option linter.unusedSectionVars false
variable [GT]
theorem widths_o (o : List Int) : widths [Seg.arr IntKind.u8 o] = o.length := by simp [widths, Seg.width]
theorem hr_none {w : World} (hgw : GWok w.heap.size [] w) : HR (fun _ => ⟨none, 0⟩) (· < 0) w.heap.size [] (look []) w := ⟨Nat.le_refl _, fun _ _ h => (by cases h), fun _ _ _ h => (by cases h), fun _ _ _ h => (by cases h), fun _ _ _ _ _ _ h => (by cases h), hgw⟩
theorem nil_ok : OOK Tryd.prog [] := ook_of (l := []) trivial
noncomputable abbrev fGr : Func := Tryd.f45
def grA (n : Nat) : List SV := [ofV (.slice none 0 0), ofV (.int .i64 (n : Nat))]
def grH (n : Nat) : Nat → Nat → Hint := atH 3 5 (isI .i64 0) (atH 3 6 (isI .i64 (n : Nat)) (atH 4 1 (isB true) (atH 5 5 symH (atH 5 8 { sym := true, c := some [.arr .u8 []] } noH))))
def grH0 : Nat → Nat → Hint := atH 3 5 (isI .i64 0) (atH 3 6 (isI .i64 0) (atH 4 1 (isB false) noH))
noncomputable def grE : St := { tm := tmL 27 [(4, .av (.one (.r 0 0 0 0)))], hp := [(0, ⟨1, 5, [.arr .u8 []]⟩)], nx := 1, gl := [] }
noncomputable def grE0 : St := { tm := tmL 27 [(4, ofV (Value.slice none 0 0))], hp := [], nx := 0, gl := [] }
theorem gr_run (n : Nat) : runF tyT [] (grH n) [] 0 [0] [4] fGr (grA n) [] 0 [] = some ([.fin], grE, [tI .i64 0 0, tI .i64 (IntKind.i64.wrap ((n : Int) - 0)) (n : Nat), tB (decide ((n : Int) > 0)) true, 0 ≤ (n : Int) ∧ n ≤ okSize, 1 ≤ n, n * 2 ≤ 140737488355328, 0 + n ≤ widths [Seg.arr .u8 (List.replicate n 0)], (0 : Int) ≤ 0 ∧ 0 ≤ widths [Seg.arr .u8 (List.replicate n 0)] - 0, ∀ ρ : Nat → Loc, segsVals ρ [.arr .u8 []] = (segsVals ρ [Seg.arr .u8 (List.replicate n 0)]).take 0]) := by kernel_rfl
theorem gr_run0 : runF tyT [] grH0 [] 0 [] [4] fGr (grA 0) [] 0 [] = some ([.fin], grE0, [tI .i64 0 0, tI .i64 (IntKind.i64.wrap (((0 : Nat) : Int) - 0)) 0, tB (decide ((0 : Int) > 0)) false]) := by kernel_rfl
theorem gr_reach (n : Nat) (h1 : 1 ≤ n) (h2 : n ≤ 1000000) : From Tryd.prog fGr (grA n) [] 0 [] [.fin] grE := by
  refine From.run tyT_ok nil_ok mixed_ (gr_run n) ⟨tI_iff.2 rfl, ?_, tB_gt.2 (by omega), ⟨by omega, by unfold okSize; omega⟩, h1, by omega, by rw [widths_o, List.length_replicate]; omega, ⟨by omega, by omega⟩, fun ρ => by rw [List.take_zero]; rfl, trivial⟩
  rw [Int.sub_zero, tI_64]
  omega
theorem gr_reach0 : From Tryd.prog fGr (grA 0) [] 0 [] [.fin] (adoptSt 5 .u8 4 grE0) :=
  (From.run tyT_ok nil_ok mixed_ gr_run0 ⟨tI_iff.2 rfl, by rw [tI_iff]; decide, by rw [tB_iff]; decide, trivial⟩).trans (Reaches.adopt 5 .u8 (by kernel_rfl))
def eGrow : Ent := fun args _ base => match args with
  | [.av (.one (.v (.slice none 0 0))), .av (.one (.v (.int .i64 z)))] => some { val := .av (.one (.r (base + 0) 0 0 0)), new := [⟨1, 5, [.arr .u8 []]⟩], asm := .say (0 ≤ z ∧ z ≤ 1000000) }
  | _ => none
theorem grow_ent : EntOK Tryd.prog 45 eGrow := by
  refine ⟨⟨_, Tryd.func45, by kernel_rfl, by kernel_rfl⟩, fun args G base res hr ha ρ D N M w hG hin hfr => ?_⟩
  unfold eGrow at hr
  split at hr
  · rename_i z
    simp only [Option.some.injEq] at hr
    subst hr
    obtain ⟨hz0, hz1⟩ : 0 ≤ z ∧ z ≤ 1000000 := ha
    obtain ⟨n, rfl⟩ : ∃ n : Nat, z = n := ⟨z.toNat, by omega⟩
    have hinA : ∀ s ∈ grA n, s.In (· < 0) := fun s hs => by
      simp only [grA, List.mem_cons, List.not_mem_nil, or_false] at hs
      rcases hs with rfl | rfl <;> exact fun s hs => (by simp [AV.segs] at hs; subst hs; trivial)
    by_cases hn : n = 0
    · subst hn
      obtain ⟨c, hc, hR⟩ := gr_reach0
      have hcall := reach_new (D := D) (N := N) (M := M) (G := G) (base := base) (ρ := ρ) tyT_ok Tryd.func45 hc (.inr rfl) hR (v := .av (.one (.r 0 0 0 0))) (by kernel_rfl) (es := [0]) (by kernel_rfl) (by kernel_rfl) (by kernel_rfl) (by kernel_rfl) hinA (hr_none hG.gwc) hG hfr (r := { val := .av (.one (.r (base + 0) 0 0 0)), new := [⟨1, 5, [.arr .u8 []]⟩] }) (by kernel_rfl)
      refine hcall.mono fun e w' ⟨v, h1, ρ', hF⟩ => ⟨v, h1, ρ', ⟨hF.agree, hF.val, hF.hr, hF.kept, hF.fresh⟩⟩
    · obtain ⟨c, hc, hR⟩ := gr_reach n (by omega) (by omega)
      have hcall := reach_new (D := D) (N := N) (M := M) (G := G) (base := base) (ρ := ρ) tyT_ok Tryd.func45 hc (.inr rfl) hR (v := .av (.one (.r 0 0 0 0))) (by kernel_rfl) (es := [0]) (by kernel_rfl) (by kernel_rfl) (by kernel_rfl) (by kernel_rfl) hinA (hr_none hG.gwc) hG hfr (r := { val := .av (.one (.r (base + 0) 0 0 0)), new := [⟨1, 5, [.arr .u8 []]⟩] }) (by kernel_rfl)
      refine hcall.mono fun e w' ⟨v, h1, ρ', hF⟩ => ⟨v, h1, ρ', ⟨hF.agree, hF.val, hF.hr, hF.kept, hF.fresh⟩⟩
  · cases hr
noncomputable abbrev fCC : Func := Tryd.f35
noncomputable def ccO : List (Nat × Ent) := [(45, eGrow)]
theorem ccO_ok : OOK Tryd.prog ccO := ook_of (l := [(45, eGrow)]) ⟨grow_ent, trivial⟩
def ccH : Nat → Nat → Hint := atH 6 1 (isB false) (atH 13 2 symH noH)
def cc1B (a : List Int) (cap : Nat) : List CB := [.rs cap [.sl .u8 a]]
def cc2B (a b : List Int) (cap : Nat) : List CB := [.rs cap [.sl .u8 a, .sl .u8 b]]
def cc3B (a b c : List Int) (cap : Nat) : List CB := [.rs cap [.sl .u8 a, .sl .u8 b, .sl .u8 c]]
noncomputable def ccS (n L : Nat) (hp : List (Nat × Blk)) (z : List Int) : St := { tm := tmL 36 [(2, .av (.one (.r n 0 L 0)))], hp := hp ++ [(n, ⟨1, 5, [.arr .u8 z]⟩)], nx := n + 1, gl := [] }
theorem cc1_run (a : List Int) (cap : Nat) : runF tyT ccO ccH [(3, 2), (11, 2)] 2 [3] [2] fCC (bA (cc1B a cap) 0 0) (bH κ0 (cc1B a cap) 0 0) 2 [] = some ([.fin], ccS 2 (0 + a.length) (bH κ0 (cc1B a cap) 0 0) ([] ++ a.take a.length), [tB (decide (IntKind.wrap IntKind.i64 (0 + (a.length : Int)) < 0)) false, 0 ≤ IntKind.wrap IntKind.i64 (0 + (a.length : Int)) ∧ IntKind.wrap IntKind.i64 (0 + (a.length : Int)) ≤ 1000000, 0 = 0, 0 + a.length ≤ widths [Seg.arr IntKind.u8 a], (0 + a.length) * 2 ≤ 140737488355328]) := by kernel_rfl
theorem cc2_run (a b : List Int) (cap : Nat) : runF tyT ccO ccH [(3, 3), (11, 3)] 3 [5] [2] fCC (bA (cc2B a b cap) 0 0) (bH κ0 (cc2B a b cap) 0 0) 3 [] = some ([.fin], ccS 3 (widths [Seg.arr IntKind.u8 ([] ++ a.take a.length)] + b.length) (bH κ0 (cc2B a b cap) 0 0) ([] ++ a.take a.length ++ b.take b.length), [tB (decide (IntKind.wrap IntKind.i64 (0 + (a.length : Int)) < 0)) false, tB (decide (IntKind.wrap IntKind.i64 (IntKind.wrap IntKind.i64 (0 + (a.length : Int)) + (b.length : Int)) < 0)) false, 0 ≤ IntKind.wrap IntKind.i64 (IntKind.wrap IntKind.i64 (0 + (a.length : Int)) + (b.length : Int)) ∧ IntKind.wrap IntKind.i64 (IntKind.wrap IntKind.i64 (0 + (a.length : Int)) + (b.length : Int)) ≤ 1000000, 0 = 0, 0 + a.length ≤ widths [Seg.arr IntKind.u8 a], (0 + a.length) * 2 ≤ 140737488355328, 0 + a.length = widths [Seg.arr IntKind.u8 ([] ++ a.take a.length)], 0 + b.length ≤ widths [Seg.arr IntKind.u8 b], (widths [Seg.arr IntKind.u8 ([] ++ a.take a.length)] + b.length) * 2 ≤ 140737488355328]) := by kernel_rfl
theorem cc3_run (a b c : List Int) (cap : Nat) : runF tyT ccO ccH [(3, 4), (11, 4)] 4 [7] [2] fCC (bA (cc3B a b c cap) 0 0) (bH κ0 (cc3B a b c cap) 0 0) 4 [] = some ([.fin], ccS 4 (widths [Seg.arr IntKind.u8 ([] ++ a.take a.length ++ b.take b.length)] + c.length) (bH κ0 (cc3B a b c cap) 0 0) ([] ++ a.take a.length ++ b.take b.length ++ c.take c.length), [tB (decide (IntKind.wrap IntKind.i64 (0 + (a.length : Int)) < 0)) false, tB (decide (IntKind.wrap IntKind.i64 (IntKind.wrap IntKind.i64 (0 + (a.length : Int)) + (b.length : Int)) < 0)) false, tB (decide (IntKind.wrap IntKind.i64 (IntKind.wrap IntKind.i64 (IntKind.wrap IntKind.i64 (0 + (a.length : Int)) + (b.length : Int)) + (c.length : Int)) < 0)) false, 0 ≤ IntKind.wrap IntKind.i64 (IntKind.wrap IntKind.i64 (IntKind.wrap IntKind.i64 (0 + (a.length : Int)) + (b.length : Int)) + (c.length : Int)) ∧ IntKind.wrap IntKind.i64 (IntKind.wrap IntKind.i64 (IntKind.wrap IntKind.i64 (0 + (a.length : Int)) + (b.length : Int)) + (c.length : Int)) ≤ 1000000, 0 = 0, 0 + a.length ≤ widths [Seg.arr IntKind.u8 a], (0 + a.length) * 2 ≤ 140737488355328, 0 + a.length = widths [Seg.arr IntKind.u8 ([] ++ a.take a.length)], 0 + b.length ≤ widths [Seg.arr IntKind.u8 b], (widths [Seg.arr IntKind.u8 ([] ++ a.take a.length)] + b.length) * 2 ≤ 140737488355328, widths [Seg.arr IntKind.u8 ([] ++ a.take a.length)] + b.length = widths [Seg.arr IntKind.u8 ([] ++ a.take a.length ++ b.take b.length)], 0 + c.length ≤ widths [Seg.arr IntKind.u8 c], (widths [Seg.arr IntKind.u8 ([] ++ a.take a.length ++ b.take b.length)] + c.length) * 2 ≤ 140737488355328]) := by kernel_rfl
/-- Parts together. -/
def ccF : List CB → Option BR
  | [.rs _ [.sl .u8 a]] => some { pre := a.length ≤ 1000000, val := .av (.one (.r 0 0 a.length 0)), new := [⟨1, 5, [.arr .u8 a]⟩] }
  | [.rs _ [.sl .u8 a, .sl .u8 b]] => some { pre := a.length + b.length ≤ 1000000, val := .av (.one (.r 0 0 (a.length + b.length) 0)), new := [⟨1, 5, [.arr .u8 (a ++ b)]⟩] }
  | [.rs _ [.sl .u8 a, .sl .u8 b, .sl .u8 c]] => some { pre := a.length + b.length + c.length ≤ 1000000, val := .av (.one (.r 0 0 (a.length + b.length + c.length) 0)), new := [⟨1, 5, [.arr .u8 (a ++ b ++ c)]⟩] }
  | _ => none
theorem wN {n : Nat} (h : n ≤ 1000000) : IntKind.wrap IntKind.i64 (n : Int) = n := w64 (by omega) (by omega)
theorem cc_ends (cbs : List CB) (r : BR) (hF : ccF cbs = some r) (hp : r.pre) : EndsB Tryd.prog tyT [] fCC cbs r := by
  unfold ccF at hF
  split at hF
  · rename_i cap a
    injection hF with hF
    subst hF
    have hp : a.length ≤ 1000000 := hp
    have hr := cc1_run a cap
    simp only [List.nil_append, List.take_length, widths_o, Int.zero_add, Nat.zero_add, wN hp] at hr
    exact fun κ => ⟨_, _, .av (.one (.r 2 0 a.length 0)), [2], .inr rfl, FromK.run tyT_ok ccO_ok mixed_ hr ⟨tB_nlt.2 (by omega), ⟨by omega, by omega⟩, trivial, Nat.le_refl _, by omega, trivial⟩, by kernel_rfl, by kernel_rfl, by kernel_rfl⟩
  · rename_i cap a b
    injection hF with hF
    subst hF
    have hp : a.length + b.length ≤ 1000000 := hp
    have hr := cc2_run a b cap
    have e2 : (a.length : Int) + (b.length : Int) = ((a.length + b.length : Nat) : Int) := by omega
    simp only [List.nil_append, List.take_length, widths_o, Int.zero_add, Nat.zero_add, wN (show a.length ≤ 1000000 by omega), e2, wN hp] at hr
    exact fun κ => ⟨_, _, .av (.one (.r 3 0 (a.length + b.length) 0)), [3], .inr rfl, FromK.run tyT_ok ccO_ok mixed_ hr ⟨tB_nlt.2 (by omega), tB_nlt.2 (by omega), ⟨by omega, by omega⟩, trivial, Nat.le_refl _, by omega, trivial, Nat.le_refl _, by omega, trivial⟩, by kernel_rfl, by kernel_rfl, by kernel_rfl⟩
  · rename_i cap a b c
    injection hF with hF
    subst hF
    have hp : a.length + b.length + c.length ≤ 1000000 := hp
    have hr := cc3_run a b c cap
    have e2 : (a.length : Int) + (b.length : Int) = ((a.length + b.length : Nat) : Int) := by omega
    have e3 : ((a.length + b.length : Nat) : Int) + (c.length : Int) = ((a.length + b.length + c.length : Nat) : Int) := by omega
    simp only [List.nil_append, List.take_length, widths_o, Int.zero_add, Nat.zero_add, wN (show a.length ≤ 1000000 by omega), e2, wN (show a.length + b.length ≤ 1000000 by omega), e3, wN hp, List.length_append] at hr
    exact fun κ => ⟨_, _, .av (.one (.r 4 0 (a.length + b.length + c.length) 0)), [4], .inr rfl, FromK.run tyT_ok ccO_ok mixed_ hr ⟨tB_nlt.2 (by omega), tB_nlt.2 (by omega), tB_nlt.2 (by omega), ⟨by omega, by omega⟩, trivial, Nat.le_refl _, by omega, trivial, Nat.le_refl _, by omega, trivial, Nat.le_refl _, by omega, trivial⟩, by kernel_rfl, by kernel_rfl, by kernel_rfl⟩
  · cases hF
theorem concat_ent (sh : List ShB) (hs : sh.length = 1 := by rfl) : EntOK Tryd.prog 35 (entB sh ccF) :=
  ok_B tyT_ok Tryd.func35 (by kernel_rfl) (by kernel_rfl) [] (fun x hx => by cases hx) (by rw [hs]; kernel_rfl) cc_ends
end Go.Proofs.YtmhmfmnjdbehcaaDoor.Am
/- slices.Clone. Conditions: none. -/
namespace Go.Proofs.YtmhmfmnjdbehcaaDoor.Am
set_option linter.unusedVariables false
set_option linter.unusedSimpArgs false
open Go Go.RowKit
set_option linter.unusedSectionVars false
theorem info8 : (Tryd.prog.info? 5).map (fun i => (i.zero, i.size, i.bytes)) = some (some (.int .u8 0), 1, 1) := by kernel_rfl
theorem slice_nil_ (a : Option Addr) (n c : Nat) (w : World) : (binOp .eql 27 (.slice a n c) (.slice none 0 0)).run Tryd.prog w = .ok (.bool a.isNone) w :=
  Lib.run_eql_slice_nil w 27 5 a n c 0 0 Tryd.underlying27
theorem owns_zero (w : World) : (w.alloc (.cells #[] 5)).ownsRow w.heap.size 5 1 (.slice (some ⟨w.heap.size, 0, none⟩) 0 0) 0 [] :=
  ⟨rfl, .inr ⟨w.heap.size, 0, #[], rfl, Nat.le_refl _, heap_new _ _, Nat.le_refl _, Nat.zero_le _, rfl, rfl⟩⟩
attribute [local go_sem ↓] slice_nil_
set_option maxHeartbeats 4000000 in
theorem clone_fact (a : Option Addr) (cap : Nat) (zs : List Int) (w : World) (hr : RowAt w ⟨a, cap⟩ .u8 zs) (hb : zs.length ≤ 1000000) : Calls Tryd.prog 37 #[.slice a zs.length cap] w fun e w' => (∃ v, e = .returned v ∧ w'.ownsRow w.heap.size 5 1 v zs.length (zs.map (Value.int .u8))) ∧ Below w.heap.size w w' := by
  obtain ⟨i0, hi, hz0, hz1, hz2⟩ := info_parts info8
  go_enter Tryd.func37, Tryd.ntmps37
  cases a with
  | none =>
    have hz : zs = [] := by
      rcases hr.2.1 with h | ⟨x, hx, _⟩
      · exact h
      · cases hx
    subst hz
    go_wp2
    go_ret
    exact ⟨⟨_, rfl, World.ownsRow_nil _ _ _ _⟩, Below.refl _ _⟩
  | some x =>
    have hlt := hr.2.2 x rfl
    have hcells : ∀ (j : Nat) (u : Value), (zs.map (Value.int .u8))[j]? = some u → (w.alloc (.cells #[] 5)).cell? (x.add j) = some u := fun j u hj => by
      rcases hr.2.1 with h | ⟨y, hy, h⟩
      · subst h; simp at hj
      · injection hy with hy
        subst hy
        rw [← h j u hj]
        refine World.cell?_of_block (w := w) ?_
        rw [add_block]
        exact Below.heap_alloc _ _ _ hlt
    go_wp2_with (at_builtin; refine wpList_append_own _ rfl _ _ 27 rfl w.heap.size 5 i0 (.int .u8 0) 1 1 Tryd.underlying27 hi hz0 hz1 hz2 rfl (by decide) _ 0 [] rfl (owns_zero w) x zs.length cap (zs.map (Value.int .u8)) rfl (by simp) hcells (fun u hu => by simp at hu; obtain ⟨z, _, rfl⟩ := hu; rfl) (by unfold maxLen; omega) (by omega) (by simp) ?_; intro v' w1 hown hgrow hnil)
    go_ret
    rw [List.nil_append, Nat.zero_add] at hown
    refine ⟨⟨_, rfl, hown⟩, ?_⟩
    exact ((Below.refl _ w).alloc (Nat.le_refl _) _).grown hgrow (by simp) (fun j e => by have e : some w.heap.size = some j := e; have e := Option.some.inj e; omega)
variable [GT]
/-- A copy of a slice. -/
def eClone (wh : Bool) : Ent := fun args G base => match args with
  | [.av (.one x)] => match readSl wh G .u8 x with
    | some (zs, p) => some { val := .av (.one (.r base 0 zs.length 0)), new := [⟨1, 5, [.arr .u8 zs]⟩], asm := p.and (.say (zs.length ≤ 1000000)) }
    | none => none
  | _ => none
theorem clone_ent (wh : Bool) : EntOK Tryd.prog 37 (eClone wh) := by
  refine ⟨⟨_, Tryd.func37, by kernel_rfl, by kernel_rfl⟩, fun args G base res hr ha ρ D N M w hG hin hfr => ?_⟩
  unfold eClone at hr
  split at hr
  · rename_i x
    split at hr
    · rename_i zs p hz
      simp only [Option.some.injEq] at hr
      subst hr
      obtain ⟨hp, hl⟩ := ha
      have hl : zs.length ≤ 1000000 := hl
      obtain ⟨l, h1, _, h2⟩ := readSl_spec hG hz hp
      have e := (h2 (fun _ => l) 0 rfl).2
      have e2 : x.conc ρ = .slice l.a zs.length l.cap := by
        rw [← e]
        simp only [Seg.conc, radr, Nat.sub_zero]
        cases l.a <;> simp [Addr.add]
      have hc := clone_fact l.a l.cap zs w h1 hl
      rw [← e2] at hc
      exact ent_row (f := 37) (args := #[x.conc ρ]) hc hG (c := [.arr .u8 zs]) (hfr base (Nat.le_refl _) (by simp)) rfl rfl (fun s hs => (by simp at hs; subst hs; trivial)) (by rw [segsVals_one]; rfl) rfl
    · cases hr
  · cases hr
end Go.Proofs.YtmhmfmnjdbehcaaDoor.Am
/- The abstract machine: a block's cells told otherwise. Conditions: none. -/
namespace Go.Proofs.YtmhmfmnjdbehcaaDoor.Am
set_option linter.unusedVariables false
set_option linter.unusedSimpArgs false
open Go Go.RowKit
set_option linter.unusedSectionVars false
def retH (id : Nat) (c : List Seg) : List (Nat × Blk) → List (Nat × Blk)
  | [] => []
  | (k, b) :: l => match Nat.beq k id with
    | true => (k, ⟨b.k, b.ty, c⟩) :: retH id c l
    | false => (k, b) :: retH id c l
def retS (id : Nat) (c : List Seg) (s : St) : St := { s with hp := retH id c s.hp }
section
variable {P : Program}
variable [GT]
theorem look_retH {id : Nat} {c : List Seg} {i : Nat} : ∀ {l : List (Nat × Blk)}, look (retH id c l) i = if i = id then (look l i).map (fun b => ⟨b.k, b.ty, c⟩) else look l i
  | [] => by simp [retH, look]
  | (k, b) :: l => by
    unfold retH
    split
    · rename_i hk
      have := Nat.eq_of_beq_eq_true hk
      subst this
      rw [look_cons, look_cons, look_retH (l := l)]
      by_cases h : k = i
      · subst h; simp
      · rw [if_neg h, if_neg h]
    · rename_i hk
      have hk : k ≠ id := fun e => by rw [e, Nat.beq_refl] at hk; cases hk
      rw [look_cons, look_cons, look_retH (l := l)]
      by_cases h : k = i
      · subst h; rw [if_pos rfl, if_pos rfl, if_neg hk]
      · rw [if_neg h, if_neg h]
def cOf (s : St) (id : Nat) : List Seg := match look s.hp id with
  | some b => b.c
  | none => []
theorem Reaches.retell {m0 : Nat} {todo : List AI} {s : St} (id : Nat) (c : List Seg) (hv : ∀ ρ : Nat → Loc, segsVals ρ c = segsVals ρ (cOf s id)) (hf : c.all freeB = true := by kernel_rfl) : Reaches P m0 todo s todo (retS id c s) := by
  intro B N M w0 hl hR ρ a w hr
  refine hR ρ a w ⟨⟨hr.rel.slots, hr.rel.globals, hr.rel.hr.recon fun i b' hb' => ?_, hr.rel.kept, hr.rel.defers⟩, hr.size⟩
  have e : look (retS id c s).hp i = look (retH id c s.hp) i := rfl
  rw [e, look_retH] at hb'
  by_cases hi : i = id
  · subst hi
    rw [if_pos rfl, Option.map_eq_some_iff] at hb'
    obtain ⟨b, hb, rfl⟩ := hb'
    have hv := hv ρ
    unfold cOf at hv
    rw [hb] at hv
    exact ⟨b, hb, rfl, rfl, hv, fun x hx => free_in (List.all_eq_true.1 hf x hx) _⟩
  · rw [if_neg hi] at hb'
    exact ⟨b', hb', rfl, rfl, rfl, (hr.rel.hr.blk i b' hb').2.1⟩
end
end Go.Proofs.YtmhmfmnjdbehcaaDoor.Am
/- The sums' tail. Conditions: none. -/
namespace Go.Proofs.YtmhmfmnjdbehcaaDoor.Am
set_option linter.unusedVariables false
set_option linter.unusedSimpArgs false
open Go Go.RowKit
set_option linter.unusedSectionVars false
variable [GT]
noncomputable abbrev fTl : Func := Tryd.f38
def tlS0 (n : Nat) : St := { tm := tmL 39 [(0, ofV (.int .i64 (n : Nat))), (3, .av (.one (.s 0 0 1 1)))], hp := [(0, ⟨0, 5, [.v (.int .u8 128)]⟩)], nx := 1, gl := [] }
def tlS (n : Nat) (o : List Int) (L : Nat) : St := { tm := tmL 39 [(0, ofV (.int .i64 (n : Nat))), (3, .av (.one (.r 0 0 L 0)))], hp := [(0, ⟨1, 5, [.arr .u8 o]⟩)], nx := 1, gl := [] }
def tlZ (n : Nat) : List Int := [0, 0, 0, 0, 0, 0, 0, IntKind.wrap IntKind.u8 (ishr IntKind.u64 (IntKind.wrap IntKind.u64 ((n : Nat) : Int)) 61), IntKind.wrap IntKind.u8 (ishr IntKind.u64 (ishl IntKind.u64 (IntKind.wrap IntKind.u64 ((n : Nat) : Int)) 3) 56), IntKind.wrap IntKind.u8 (ishr IntKind.u64 (ishl IntKind.u64 (IntKind.wrap IntKind.u64 ((n : Nat) : Int)) 3) 48), IntKind.wrap IntKind.u8 (ishr IntKind.u64 (ishl IntKind.u64 (IntKind.wrap IntKind.u64 ((n : Nat) : Int)) 3) 40), IntKind.wrap IntKind.u8 (ishr IntKind.u64 (ishl IntKind.u64 (IntKind.wrap IntKind.u64 ((n : Nat) : Int)) 3) 32), IntKind.wrap IntKind.u8 (ishr IntKind.u64 (ishl IntKind.u64 (IntKind.wrap IntKind.u64 ((n : Nat) : Int)) 3) 24), IntKind.wrap IntKind.u8 (ishr IntKind.u64 (ishl IntKind.u64 (IntKind.wrap IntKind.u64 ((n : Nat) : Int)) 3) 16), IntKind.wrap IntKind.u8 (ishr IntKind.u64 (ishl IntKind.u64 (IntKind.wrap IntKind.u64 ((n : Nat) : Int)) 3) 8), IntKind.wrap IntKind.u8 (ishr IntKind.u64 (ishl IntKind.u64 (IntKind.wrap IntKind.u64 ((n : Nat) : Int)) 3) 0)]
def tlO (k : Nat) : List Int := 128 :: List.replicate k 0
def padN (n : Nat) : Nat := (239 - n % 128) % 128
/-- What fills so many bytes up. -/
def tailL (n : Nat) : List Int := tlO (padN n) ++ tlZ n
def tlE (o : List Int) (L : Nat) : St := { tm := tmL 39 [(2, .av (.one (.r 0 0 L 0)))], hp := [(0, ⟨1, 5, [.arr .u8 o]⟩)], nx := 1, gl := [] }
theorem tl_start (n : Nat) : runF tyT [] noH [(7, 9)] 0 [0] [0, 3] fTl [ofV (.int .i64 (n : Nat))] [] 0 [] = some (toAt fTl 2 [], tlS0 n, []) := by kernel_rfl
theorem tl_go0 (n : Nat) (k_ : Nat) : runN tyT [] (atH 2 5 (isB true) noH) [(7, 9)] 2000 0 [2] [0, 3] (inAt fTl 2 [] k_) (tlS0 n) = some ((hdAt fTl 2 [] k_), { tm := tmL 39 [(0, ofV (.int .i64 ((n : Nat) : Int))), (3, .av (.one (.r 0 0 2 0)))], hp := [(0, ⟨1, 5, [.v (.int .u8 128), .v (.int .u8 0)]⟩)], nx := 1, gl := [] }, [tB (Int.tmod (IntKind.wrap IntKind.i64 (((n : Nat) : Int) + 1)) 128 != 112) true]) := by kernel_rfl
theorem tl_end0 (n : Nat) (k_ : Nat) : runN tyT [] (atH 2 5 (isB false) noH) [(7, 9)] 2000 0 [20] [2] (inAt fTl 2 [] k_) (tlS0 n) = some ([.fin], { tm := tmL 39 [(2, .av (.one (.r 0 0 17 0)))], hp := [(0, ⟨1, 5, [.v (.int .u8 128), .v (.int .u8 0), .v (.int .u8 0), .v (.int .u8 0), .v (.int .u8 0), .v (.int .u8 0), .v (.int .u8 0), .v (.int .u8 0), .v (.int .u8 (IntKind.wrap IntKind.u8 (ishr IntKind.u64 (IntKind.wrap IntKind.u64 ((n : Nat) : Int)) 61))), .v (.int .u8 (IntKind.wrap IntKind.u8 (ishr IntKind.u64 (ishl IntKind.u64 (IntKind.wrap IntKind.u64 ((n : Nat) : Int)) 3) 56))), .v (.int .u8 (IntKind.wrap IntKind.u8 (ishr IntKind.u64 (ishl IntKind.u64 (IntKind.wrap IntKind.u64 ((n : Nat) : Int)) 3) 48))), .v (.int .u8 (IntKind.wrap IntKind.u8 (ishr IntKind.u64 (ishl IntKind.u64 (IntKind.wrap IntKind.u64 ((n : Nat) : Int)) 3) 40))), .v (.int .u8 (IntKind.wrap IntKind.u8 (ishr IntKind.u64 (ishl IntKind.u64 (IntKind.wrap IntKind.u64 ((n : Nat) : Int)) 3) 32))), .v (.int .u8 (IntKind.wrap IntKind.u8 (ishr IntKind.u64 (ishl IntKind.u64 (IntKind.wrap IntKind.u64 ((n : Nat) : Int)) 3) 24))), .v (.int .u8 (IntKind.wrap IntKind.u8 (ishr IntKind.u64 (ishl IntKind.u64 (IntKind.wrap IntKind.u64 ((n : Nat) : Int)) 3) 16))), .v (.int .u8 (IntKind.wrap IntKind.u8 (ishr IntKind.u64 (ishl IntKind.u64 (IntKind.wrap IntKind.u64 ((n : Nat) : Int)) 3) 8))), .v (.int .u8 (IntKind.wrap IntKind.u8 (ishr IntKind.u64 (ishl IntKind.u64 (IntKind.wrap IntKind.u64 ((n : Nat) : Int)) 3) 0)))]⟩)], nx := 1, gl := [] }, [tB (Int.tmod (IntKind.wrap IntKind.i64 (((n : Nat) : Int) + 1)) 128 != 112) false]) := by kernel_rfl
theorem tl_go (n : Nat) (o : List Int) (L : Nat) (k_ : Nat) : runN tyT [] (atH 2 5 (isB true) (atH 3 2 symH noH)) [(7, 9)] 2000 0 [2] [0, 3] (inAt fTl 2 [] k_) (tlS n o L) = some ((hdAt fTl 2 [] k_), { tm := tmL 39 [(0, ofV (.int .i64 ((n : Nat) : Int))), (3, .av (.one (.r 0 0 (widths [Seg.arr IntKind.u8 o] + 1) 0)))], hp := [(0, ⟨1, 5, [.arr .u8 (o ++ [0])]⟩)], nx := 1, gl := [] }, [tB (Int.tmod (IntKind.wrap IntKind.i64 (((n : Nat) : Int) + ((L : Nat) : Int))) 128 != 112) true, L = widths [Seg.arr IntKind.u8 o], 1 ≤ 1, (widths [Seg.arr IntKind.u8 o] + 1) * 2 ≤ 140737488355328]) := by kernel_rfl
theorem tl_end (n : Nat) (o : List Int) (L : Nat) (k_ : Nat) : runN tyT [] (atH 2 5 (isB false) (atH 4 2 symH (atH 5 6 symH (atH 9 8 symH noH)))) [(7, 9)] 2000 0 [20] [2] (inAt fTl 2 [] k_) (tlS n o L) = some ([.fin], { tm := tmL 39 [(2, .av (.one (.r 0 0 (widths [Seg.arr IntKind.u8 o, Seg.v (Value.int IntKind.u8 0), Seg.v (Value.int IntKind.u8 0), Seg.v (Value.int IntKind.u8 0), Seg.v (Value.int IntKind.u8 0), Seg.v (Value.int IntKind.u8 0), Seg.v (Value.int IntKind.u8 0), Seg.v (Value.int IntKind.u8 0), Seg.v (Value.int IntKind.u8 (IntKind.wrap IntKind.u8 (ishr IntKind.u64 (IntKind.wrap IntKind.u64 ((n : Nat) : Int)) 61))), Seg.v (Value.int IntKind.u8 (IntKind.wrap IntKind.u8 (ishr IntKind.u64 (ishl IntKind.u64 (IntKind.wrap IntKind.u64 ((n : Nat) : Int)) 3) 56))), Seg.v (Value.int IntKind.u8 (IntKind.wrap IntKind.u8 (ishr IntKind.u64 (ishl IntKind.u64 (IntKind.wrap IntKind.u64 ((n : Nat) : Int)) 3) 48))), Seg.v (Value.int IntKind.u8 (IntKind.wrap IntKind.u8 (ishr IntKind.u64 (ishl IntKind.u64 (IntKind.wrap IntKind.u64 ((n : Nat) : Int)) 3) 40))), Seg.v (Value.int IntKind.u8 (IntKind.wrap IntKind.u8 (ishr IntKind.u64 (ishl IntKind.u64 (IntKind.wrap IntKind.u64 ((n : Nat) : Int)) 3) 32))), Seg.v (Value.int IntKind.u8 (IntKind.wrap IntKind.u8 (ishr IntKind.u64 (ishl IntKind.u64 (IntKind.wrap IntKind.u64 ((n : Nat) : Int)) 3) 24))), Seg.v (Value.int IntKind.u8 (IntKind.wrap IntKind.u8 (ishr IntKind.u64 (ishl IntKind.u64 (IntKind.wrap IntKind.u64 ((n : Nat) : Int)) 3) 16))), Seg.v (Value.int IntKind.u8 (IntKind.wrap IntKind.u8 (ishr IntKind.u64 (ishl IntKind.u64 (IntKind.wrap IntKind.u64 ((n : Nat) : Int)) 3) 8)))] + 1) 0)))], hp := [(0, ⟨1, 5, [.arr .u8 o, .v (.int .u8 0), .v (.int .u8 0), .v (.int .u8 0), .v (.int .u8 0), .v (.int .u8 0), .v (.int .u8 0), .v (.int .u8 0), .v (.int .u8 (IntKind.wrap IntKind.u8 (ishr IntKind.u64 (IntKind.wrap IntKind.u64 ((n : Nat) : Int)) 61))), .v (.int .u8 (IntKind.wrap IntKind.u8 (ishr IntKind.u64 (ishl IntKind.u64 (IntKind.wrap IntKind.u64 ((n : Nat) : Int)) 3) 56))), .v (.int .u8 (IntKind.wrap IntKind.u8 (ishr IntKind.u64 (ishl IntKind.u64 (IntKind.wrap IntKind.u64 ((n : Nat) : Int)) 3) 48))), .v (.int .u8 (IntKind.wrap IntKind.u8 (ishr IntKind.u64 (ishl IntKind.u64 (IntKind.wrap IntKind.u64 ((n : Nat) : Int)) 3) 40))), .v (.int .u8 (IntKind.wrap IntKind.u8 (ishr IntKind.u64 (ishl IntKind.u64 (IntKind.wrap IntKind.u64 ((n : Nat) : Int)) 3) 32))), .v (.int .u8 (IntKind.wrap IntKind.u8 (ishr IntKind.u64 (ishl IntKind.u64 (IntKind.wrap IntKind.u64 ((n : Nat) : Int)) 3) 24))), .v (.int .u8 (IntKind.wrap IntKind.u8 (ishr IntKind.u64 (ishl IntKind.u64 (IntKind.wrap IntKind.u64 ((n : Nat) : Int)) 3) 16))), .v (.int .u8 (IntKind.wrap IntKind.u8 (ishr IntKind.u64 (ishl IntKind.u64 (IntKind.wrap IntKind.u64 ((n : Nat) : Int)) 3) 8))), .v (.int .u8 (IntKind.wrap IntKind.u8 (ishr IntKind.u64 (ishl IntKind.u64 (IntKind.wrap IntKind.u64 ((n : Nat) : Int)) 3) 0)))]⟩)], nx := 1, gl := [] }, [tB (Int.tmod (IntKind.wrap IntKind.i64 (((n : Nat) : Int) + ((L : Nat) : Int))) 128 != 112) false, L = widths [Seg.arr IntKind.u8 o], 7 ≤ 7, (widths [Seg.arr IntKind.u8 o] + 7) * 2 ≤ 140737488355328, widths [Seg.arr IntKind.u8 o] + 7 = widths [Seg.arr IntKind.u8 o, Seg.v (Value.int IntKind.u8 0), Seg.v (Value.int IntKind.u8 0), Seg.v (Value.int IntKind.u8 0), Seg.v (Value.int IntKind.u8 0), Seg.v (Value.int IntKind.u8 0), Seg.v (Value.int IntKind.u8 0), Seg.v (Value.int IntKind.u8 0)], 1 ≤ 1, (widths [Seg.arr IntKind.u8 o, Seg.v (Value.int IntKind.u8 0), Seg.v (Value.int IntKind.u8 0), Seg.v (Value.int IntKind.u8 0), Seg.v (Value.int IntKind.u8 0), Seg.v (Value.int IntKind.u8 0), Seg.v (Value.int IntKind.u8 0), Seg.v (Value.int IntKind.u8 0)] + 1) * 2 ≤ 140737488355328, widths [Seg.arr IntKind.u8 o, Seg.v (Value.int IntKind.u8 0), Seg.v (Value.int IntKind.u8 0), Seg.v (Value.int IntKind.u8 0), Seg.v (Value.int IntKind.u8 0), Seg.v (Value.int IntKind.u8 0), Seg.v (Value.int IntKind.u8 0), Seg.v (Value.int IntKind.u8 0)] + 1 = widths [Seg.arr IntKind.u8 o, Seg.v (Value.int IntKind.u8 0), Seg.v (Value.int IntKind.u8 0), Seg.v (Value.int IntKind.u8 0), Seg.v (Value.int IntKind.u8 0), Seg.v (Value.int IntKind.u8 0), Seg.v (Value.int IntKind.u8 0), Seg.v (Value.int IntKind.u8 0), Seg.v (Value.int IntKind.u8 (IntKind.wrap IntKind.u8 (ishr IntKind.u64 (IntKind.wrap IntKind.u64 ((n : Nat) : Int)) 61)))], 1 ≤ 1, (widths [Seg.arr IntKind.u8 o, Seg.v (Value.int IntKind.u8 0), Seg.v (Value.int IntKind.u8 0), Seg.v (Value.int IntKind.u8 0), Seg.v (Value.int IntKind.u8 0), Seg.v (Value.int IntKind.u8 0), Seg.v (Value.int IntKind.u8 0), Seg.v (Value.int IntKind.u8 0), Seg.v (Value.int IntKind.u8 (IntKind.wrap IntKind.u8 (ishr IntKind.u64 (IntKind.wrap IntKind.u64 ((n : Nat) : Int)) 61)))] + 1) * 2 ≤ 140737488355328, widths [Seg.arr IntKind.u8 o, Seg.v (Value.int IntKind.u8 0), Seg.v (Value.int IntKind.u8 0), Seg.v (Value.int IntKind.u8 0), Seg.v (Value.int IntKind.u8 0), Seg.v (Value.int IntKind.u8 0), Seg.v (Value.int IntKind.u8 0), Seg.v (Value.int IntKind.u8 0), Seg.v (Value.int IntKind.u8 (IntKind.wrap IntKind.u8 (ishr IntKind.u64 (IntKind.wrap IntKind.u64 ((n : Nat) : Int)) 61)))] + 1 = widths [Seg.arr IntKind.u8 o, Seg.v (Value.int IntKind.u8 0), Seg.v (Value.int IntKind.u8 0), Seg.v (Value.int IntKind.u8 0), Seg.v (Value.int IntKind.u8 0), Seg.v (Value.int IntKind.u8 0), Seg.v (Value.int IntKind.u8 0), Seg.v (Value.int IntKind.u8 0), Seg.v (Value.int IntKind.u8 (IntKind.wrap IntKind.u8 (ishr IntKind.u64 (IntKind.wrap IntKind.u64 ((n : Nat) : Int)) 61))), Seg.v (Value.int IntKind.u8 (IntKind.wrap IntKind.u8 (ishr IntKind.u64 (ishl IntKind.u64 (IntKind.wrap IntKind.u64 ((n : Nat) : Int)) 3) 56)))], 1 ≤ 1, (widths [Seg.arr IntKind.u8 o, Seg.v (Value.int IntKind.u8 0), Seg.v (Value.int IntKind.u8 0), Seg.v (Value.int IntKind.u8 0), Seg.v (Value.int IntKind.u8 0), Seg.v (Value.int IntKind.u8 0), Seg.v (Value.int IntKind.u8 0), Seg.v (Value.int IntKind.u8 0), Seg.v (Value.int IntKind.u8 (IntKind.wrap IntKind.u8 (ishr IntKind.u64 (IntKind.wrap IntKind.u64 ((n : Nat) : Int)) 61))), Seg.v (Value.int IntKind.u8 (IntKind.wrap IntKind.u8 (ishr IntKind.u64 (ishl IntKind.u64 (IntKind.wrap IntKind.u64 ((n : Nat) : Int)) 3) 56)))] + 1) * 2 ≤ 140737488355328, widths [Seg.arr IntKind.u8 o, Seg.v (Value.int IntKind.u8 0), Seg.v (Value.int IntKind.u8 0), Seg.v (Value.int IntKind.u8 0), Seg.v (Value.int IntKind.u8 0), Seg.v (Value.int IntKind.u8 0), Seg.v (Value.int IntKind.u8 0), Seg.v (Value.int IntKind.u8 0), Seg.v (Value.int IntKind.u8 (IntKind.wrap IntKind.u8 (ishr IntKind.u64 (IntKind.wrap IntKind.u64 ((n : Nat) : Int)) 61))), Seg.v (Value.int IntKind.u8 (IntKind.wrap IntKind.u8 (ishr IntKind.u64 (ishl IntKind.u64 (IntKind.wrap IntKind.u64 ((n : Nat) : Int)) 3) 56)))] + 1 = widths [Seg.arr IntKind.u8 o, Seg.v (Value.int IntKind.u8 0), Seg.v (Value.int IntKind.u8 0), Seg.v (Value.int IntKind.u8 0), Seg.v (Value.int IntKind.u8 0), Seg.v (Value.int IntKind.u8 0), Seg.v (Value.int IntKind.u8 0), Seg.v (Value.int IntKind.u8 0), Seg.v (Value.int IntKind.u8 (IntKind.wrap IntKind.u8 (ishr IntKind.u64 (IntKind.wrap IntKind.u64 ((n : Nat) : Int)) 61))), Seg.v (Value.int IntKind.u8 (IntKind.wrap IntKind.u8 (ishr IntKind.u64 (ishl IntKind.u64 (IntKind.wrap IntKind.u64 ((n : Nat) : Int)) 3) 56))), Seg.v (Value.int IntKind.u8 (IntKind.wrap IntKind.u8 (ishr IntKind.u64 (ishl IntKind.u64 (IntKind.wrap IntKind.u64 ((n : Nat) : Int)) 3) 48)))], 1 ≤ 1, (widths [Seg.arr IntKind.u8 o, Seg.v (Value.int IntKind.u8 0), Seg.v (Value.int IntKind.u8 0), Seg.v (Value.int IntKind.u8 0), Seg.v (Value.int IntKind.u8 0), Seg.v (Value.int IntKind.u8 0), Seg.v (Value.int IntKind.u8 0), Seg.v (Value.int IntKind.u8 0), Seg.v (Value.int IntKind.u8 (IntKind.wrap IntKind.u8 (ishr IntKind.u64 (IntKind.wrap IntKind.u64 ((n : Nat) : Int)) 61))), Seg.v (Value.int IntKind.u8 (IntKind.wrap IntKind.u8 (ishr IntKind.u64 (ishl IntKind.u64 (IntKind.wrap IntKind.u64 ((n : Nat) : Int)) 3) 56))), Seg.v (Value.int IntKind.u8 (IntKind.wrap IntKind.u8 (ishr IntKind.u64 (ishl IntKind.u64 (IntKind.wrap IntKind.u64 ((n : Nat) : Int)) 3) 48)))] + 1) * 2 ≤ 140737488355328, widths [Seg.arr IntKind.u8 o, Seg.v (Value.int IntKind.u8 0), Seg.v (Value.int IntKind.u8 0), Seg.v (Value.int IntKind.u8 0), Seg.v (Value.int IntKind.u8 0), Seg.v (Value.int IntKind.u8 0), Seg.v (Value.int IntKind.u8 0), Seg.v (Value.int IntKind.u8 0), Seg.v (Value.int IntKind.u8 (IntKind.wrap IntKind.u8 (ishr IntKind.u64 (IntKind.wrap IntKind.u64 ((n : Nat) : Int)) 61))), Seg.v (Value.int IntKind.u8 (IntKind.wrap IntKind.u8 (ishr IntKind.u64 (ishl IntKind.u64 (IntKind.wrap IntKind.u64 ((n : Nat) : Int)) 3) 56))), Seg.v (Value.int IntKind.u8 (IntKind.wrap IntKind.u8 (ishr IntKind.u64 (ishl IntKind.u64 (IntKind.wrap IntKind.u64 ((n : Nat) : Int)) 3) 48)))] + 1 = widths [Seg.arr IntKind.u8 o, Seg.v (Value.int IntKind.u8 0), Seg.v (Value.int IntKind.u8 0), Seg.v (Value.int IntKind.u8 0), Seg.v (Value.int IntKind.u8 0), Seg.v (Value.int IntKind.u8 0), Seg.v (Value.int IntKind.u8 0), Seg.v (Value.int IntKind.u8 0), Seg.v (Value.int IntKind.u8 (IntKind.wrap IntKind.u8 (ishr IntKind.u64 (IntKind.wrap IntKind.u64 ((n : Nat) : Int)) 61))), Seg.v (Value.int IntKind.u8 (IntKind.wrap IntKind.u8 (ishr IntKind.u64 (ishl IntKind.u64 (IntKind.wrap IntKind.u64 ((n : Nat) : Int)) 3) 56))), Seg.v (Value.int IntKind.u8 (IntKind.wrap IntKind.u8 (ishr IntKind.u64 (ishl IntKind.u64 (IntKind.wrap IntKind.u64 ((n : Nat) : Int)) 3) 48))), Seg.v (Value.int IntKind.u8 (IntKind.wrap IntKind.u8 (ishr IntKind.u64 (ishl IntKind.u64 (IntKind.wrap IntKind.u64 ((n : Nat) : Int)) 3) 40)))], 1 ≤ 1, (widths [Seg.arr IntKind.u8 o, Seg.v (Value.int IntKind.u8 0), Seg.v (Value.int IntKind.u8 0), Seg.v (Value.int IntKind.u8 0), Seg.v (Value.int IntKind.u8 0), Seg.v (Value.int IntKind.u8 0), Seg.v (Value.int IntKind.u8 0), Seg.v (Value.int IntKind.u8 0), Seg.v (Value.int IntKind.u8 (IntKind.wrap IntKind.u8 (ishr IntKind.u64 (IntKind.wrap IntKind.u64 ((n : Nat) : Int)) 61))), Seg.v (Value.int IntKind.u8 (IntKind.wrap IntKind.u8 (ishr IntKind.u64 (ishl IntKind.u64 (IntKind.wrap IntKind.u64 ((n : Nat) : Int)) 3) 56))), Seg.v (Value.int IntKind.u8 (IntKind.wrap IntKind.u8 (ishr IntKind.u64 (ishl IntKind.u64 (IntKind.wrap IntKind.u64 ((n : Nat) : Int)) 3) 48))), Seg.v (Value.int IntKind.u8 (IntKind.wrap IntKind.u8 (ishr IntKind.u64 (ishl IntKind.u64 (IntKind.wrap IntKind.u64 ((n : Nat) : Int)) 3) 40)))] + 1) * 2 ≤ 140737488355328, widths [Seg.arr IntKind.u8 o, Seg.v (Value.int IntKind.u8 0), Seg.v (Value.int IntKind.u8 0), Seg.v (Value.int IntKind.u8 0), Seg.v (Value.int IntKind.u8 0), Seg.v (Value.int IntKind.u8 0), Seg.v (Value.int IntKind.u8 0), Seg.v (Value.int IntKind.u8 0), Seg.v (Value.int IntKind.u8 (IntKind.wrap IntKind.u8 (ishr IntKind.u64 (IntKind.wrap IntKind.u64 ((n : Nat) : Int)) 61))), Seg.v (Value.int IntKind.u8 (IntKind.wrap IntKind.u8 (ishr IntKind.u64 (ishl IntKind.u64 (IntKind.wrap IntKind.u64 ((n : Nat) : Int)) 3) 56))), Seg.v (Value.int IntKind.u8 (IntKind.wrap IntKind.u8 (ishr IntKind.u64 (ishl IntKind.u64 (IntKind.wrap IntKind.u64 ((n : Nat) : Int)) 3) 48))), Seg.v (Value.int IntKind.u8 (IntKind.wrap IntKind.u8 (ishr IntKind.u64 (ishl IntKind.u64 (IntKind.wrap IntKind.u64 ((n : Nat) : Int)) 3) 40)))] + 1 = widths [Seg.arr IntKind.u8 o, Seg.v (Value.int IntKind.u8 0), Seg.v (Value.int IntKind.u8 0), Seg.v (Value.int IntKind.u8 0), Seg.v (Value.int IntKind.u8 0), Seg.v (Value.int IntKind.u8 0), Seg.v (Value.int IntKind.u8 0), Seg.v (Value.int IntKind.u8 0), Seg.v (Value.int IntKind.u8 (IntKind.wrap IntKind.u8 (ishr IntKind.u64 (IntKind.wrap IntKind.u64 ((n : Nat) : Int)) 61))), Seg.v (Value.int IntKind.u8 (IntKind.wrap IntKind.u8 (ishr IntKind.u64 (ishl IntKind.u64 (IntKind.wrap IntKind.u64 ((n : Nat) : Int)) 3) 56))), Seg.v (Value.int IntKind.u8 (IntKind.wrap IntKind.u8 (ishr IntKind.u64 (ishl IntKind.u64 (IntKind.wrap IntKind.u64 ((n : Nat) : Int)) 3) 48))), Seg.v (Value.int IntKind.u8 (IntKind.wrap IntKind.u8 (ishr IntKind.u64 (ishl IntKind.u64 (IntKind.wrap IntKind.u64 ((n : Nat) : Int)) 3) 40))), Seg.v (Value.int IntKind.u8 (IntKind.wrap IntKind.u8 (ishr IntKind.u64 (ishl IntKind.u64 (IntKind.wrap IntKind.u64 ((n : Nat) : Int)) 3) 32)))], 1 ≤ 1, (widths [Seg.arr IntKind.u8 o, Seg.v (Value.int IntKind.u8 0), Seg.v (Value.int IntKind.u8 0), Seg.v (Value.int IntKind.u8 0), Seg.v (Value.int IntKind.u8 0), Seg.v (Value.int IntKind.u8 0), Seg.v (Value.int IntKind.u8 0), Seg.v (Value.int IntKind.u8 0), Seg.v (Value.int IntKind.u8 (IntKind.wrap IntKind.u8 (ishr IntKind.u64 (IntKind.wrap IntKind.u64 ((n : Nat) : Int)) 61))), Seg.v (Value.int IntKind.u8 (IntKind.wrap IntKind.u8 (ishr IntKind.u64 (ishl IntKind.u64 (IntKind.wrap IntKind.u64 ((n : Nat) : Int)) 3) 56))), Seg.v (Value.int IntKind.u8 (IntKind.wrap IntKind.u8 (ishr IntKind.u64 (ishl IntKind.u64 (IntKind.wrap IntKind.u64 ((n : Nat) : Int)) 3) 48))), Seg.v (Value.int IntKind.u8 (IntKind.wrap IntKind.u8 (ishr IntKind.u64 (ishl IntKind.u64 (IntKind.wrap IntKind.u64 ((n : Nat) : Int)) 3) 40))), Seg.v (Value.int IntKind.u8 (IntKind.wrap IntKind.u8 (ishr IntKind.u64 (ishl IntKind.u64 (IntKind.wrap IntKind.u64 ((n : Nat) : Int)) 3) 32)))] + 1) * 2 ≤ 140737488355328, widths [Seg.arr IntKind.u8 o, Seg.v (Value.int IntKind.u8 0), Seg.v (Value.int IntKind.u8 0), Seg.v (Value.int IntKind.u8 0), Seg.v (Value.int IntKind.u8 0), Seg.v (Value.int IntKind.u8 0), Seg.v (Value.int IntKind.u8 0), Seg.v (Value.int IntKind.u8 0), Seg.v (Value.int IntKind.u8 (IntKind.wrap IntKind.u8 (ishr IntKind.u64 (IntKind.wrap IntKind.u64 ((n : Nat) : Int)) 61))), Seg.v (Value.int IntKind.u8 (IntKind.wrap IntKind.u8 (ishr IntKind.u64 (ishl IntKind.u64 (IntKind.wrap IntKind.u64 ((n : Nat) : Int)) 3) 56))), Seg.v (Value.int IntKind.u8 (IntKind.wrap IntKind.u8 (ishr IntKind.u64 (ishl IntKind.u64 (IntKind.wrap IntKind.u64 ((n : Nat) : Int)) 3) 48))), Seg.v (Value.int IntKind.u8 (IntKind.wrap IntKind.u8 (ishr IntKind.u64 (ishl IntKind.u64 (IntKind.wrap IntKind.u64 ((n : Nat) : Int)) 3) 40))), Seg.v (Value.int IntKind.u8 (IntKind.wrap IntKind.u8 (ishr IntKind.u64 (ishl IntKind.u64 (IntKind.wrap IntKind.u64 ((n : Nat) : Int)) 3) 32)))] + 1 = widths [Seg.arr IntKind.u8 o, Seg.v (Value.int IntKind.u8 0), Seg.v (Value.int IntKind.u8 0), Seg.v (Value.int IntKind.u8 0), Seg.v (Value.int IntKind.u8 0), Seg.v (Value.int IntKind.u8 0), Seg.v (Value.int IntKind.u8 0), Seg.v (Value.int IntKind.u8 0), Seg.v (Value.int IntKind.u8 (IntKind.wrap IntKind.u8 (ishr IntKind.u64 (IntKind.wrap IntKind.u64 ((n : Nat) : Int)) 61))), Seg.v (Value.int IntKind.u8 (IntKind.wrap IntKind.u8 (ishr IntKind.u64 (ishl IntKind.u64 (IntKind.wrap IntKind.u64 ((n : Nat) : Int)) 3) 56))), Seg.v (Value.int IntKind.u8 (IntKind.wrap IntKind.u8 (ishr IntKind.u64 (ishl IntKind.u64 (IntKind.wrap IntKind.u64 ((n : Nat) : Int)) 3) 48))), Seg.v (Value.int IntKind.u8 (IntKind.wrap IntKind.u8 (ishr IntKind.u64 (ishl IntKind.u64 (IntKind.wrap IntKind.u64 ((n : Nat) : Int)) 3) 40))), Seg.v (Value.int IntKind.u8 (IntKind.wrap IntKind.u8 (ishr IntKind.u64 (ishl IntKind.u64 (IntKind.wrap IntKind.u64 ((n : Nat) : Int)) 3) 32))), Seg.v (Value.int IntKind.u8 (IntKind.wrap IntKind.u8 (ishr IntKind.u64 (ishl IntKind.u64 (IntKind.wrap IntKind.u64 ((n : Nat) : Int)) 3) 24)))], 1 ≤ 1, (widths [Seg.arr IntKind.u8 o, Seg.v (Value.int IntKind.u8 0), Seg.v (Value.int IntKind.u8 0), Seg.v (Value.int IntKind.u8 0), Seg.v (Value.int IntKind.u8 0), Seg.v (Value.int IntKind.u8 0), Seg.v (Value.int IntKind.u8 0), Seg.v (Value.int IntKind.u8 0), Seg.v (Value.int IntKind.u8 (IntKind.wrap IntKind.u8 (ishr IntKind.u64 (IntKind.wrap IntKind.u64 ((n : Nat) : Int)) 61))), Seg.v (Value.int IntKind.u8 (IntKind.wrap IntKind.u8 (ishr IntKind.u64 (ishl IntKind.u64 (IntKind.wrap IntKind.u64 ((n : Nat) : Int)) 3) 56))), Seg.v (Value.int IntKind.u8 (IntKind.wrap IntKind.u8 (ishr IntKind.u64 (ishl IntKind.u64 (IntKind.wrap IntKind.u64 ((n : Nat) : Int)) 3) 48))), Seg.v (Value.int IntKind.u8 (IntKind.wrap IntKind.u8 (ishr IntKind.u64 (ishl IntKind.u64 (IntKind.wrap IntKind.u64 ((n : Nat) : Int)) 3) 40))), Seg.v (Value.int IntKind.u8 (IntKind.wrap IntKind.u8 (ishr IntKind.u64 (ishl IntKind.u64 (IntKind.wrap IntKind.u64 ((n : Nat) : Int)) 3) 32))), Seg.v (Value.int IntKind.u8 (IntKind.wrap IntKind.u8 (ishr IntKind.u64 (ishl IntKind.u64 (IntKind.wrap IntKind.u64 ((n : Nat) : Int)) 3) 24)))] + 1) * 2 ≤ 140737488355328, widths [Seg.arr IntKind.u8 o, Seg.v (Value.int IntKind.u8 0), Seg.v (Value.int IntKind.u8 0), Seg.v (Value.int IntKind.u8 0), Seg.v (Value.int IntKind.u8 0), Seg.v (Value.int IntKind.u8 0), Seg.v (Value.int IntKind.u8 0), Seg.v (Value.int IntKind.u8 0), Seg.v (Value.int IntKind.u8 (IntKind.wrap IntKind.u8 (ishr IntKind.u64 (IntKind.wrap IntKind.u64 ((n : Nat) : Int)) 61))), Seg.v (Value.int IntKind.u8 (IntKind.wrap IntKind.u8 (ishr IntKind.u64 (ishl IntKind.u64 (IntKind.wrap IntKind.u64 ((n : Nat) : Int)) 3) 56))), Seg.v (Value.int IntKind.u8 (IntKind.wrap IntKind.u8 (ishr IntKind.u64 (ishl IntKind.u64 (IntKind.wrap IntKind.u64 ((n : Nat) : Int)) 3) 48))), Seg.v (Value.int IntKind.u8 (IntKind.wrap IntKind.u8 (ishr IntKind.u64 (ishl IntKind.u64 (IntKind.wrap IntKind.u64 ((n : Nat) : Int)) 3) 40))), Seg.v (Value.int IntKind.u8 (IntKind.wrap IntKind.u8 (ishr IntKind.u64 (ishl IntKind.u64 (IntKind.wrap IntKind.u64 ((n : Nat) : Int)) 3) 32))), Seg.v (Value.int IntKind.u8 (IntKind.wrap IntKind.u8 (ishr IntKind.u64 (ishl IntKind.u64 (IntKind.wrap IntKind.u64 ((n : Nat) : Int)) 3) 24)))] + 1 = widths [Seg.arr IntKind.u8 o, Seg.v (Value.int IntKind.u8 0), Seg.v (Value.int IntKind.u8 0), Seg.v (Value.int IntKind.u8 0), Seg.v (Value.int IntKind.u8 0), Seg.v (Value.int IntKind.u8 0), Seg.v (Value.int IntKind.u8 0), Seg.v (Value.int IntKind.u8 0), Seg.v (Value.int IntKind.u8 (IntKind.wrap IntKind.u8 (ishr IntKind.u64 (IntKind.wrap IntKind.u64 ((n : Nat) : Int)) 61))), Seg.v (Value.int IntKind.u8 (IntKind.wrap IntKind.u8 (ishr IntKind.u64 (ishl IntKind.u64 (IntKind.wrap IntKind.u64 ((n : Nat) : Int)) 3) 56))), Seg.v (Value.int IntKind.u8 (IntKind.wrap IntKind.u8 (ishr IntKind.u64 (ishl IntKind.u64 (IntKind.wrap IntKind.u64 ((n : Nat) : Int)) 3) 48))), Seg.v (Value.int IntKind.u8 (IntKind.wrap IntKind.u8 (ishr IntKind.u64 (ishl IntKind.u64 (IntKind.wrap IntKind.u64 ((n : Nat) : Int)) 3) 40))), Seg.v (Value.int IntKind.u8 (IntKind.wrap IntKind.u8 (ishr IntKind.u64 (ishl IntKind.u64 (IntKind.wrap IntKind.u64 ((n : Nat) : Int)) 3) 32))), Seg.v (Value.int IntKind.u8 (IntKind.wrap IntKind.u8 (ishr IntKind.u64 (ishl IntKind.u64 (IntKind.wrap IntKind.u64 ((n : Nat) : Int)) 3) 24))), Seg.v (Value.int IntKind.u8 (IntKind.wrap IntKind.u8 (ishr IntKind.u64 (ishl IntKind.u64 (IntKind.wrap IntKind.u64 ((n : Nat) : Int)) 3) 16)))], 1 ≤ 1, (widths [Seg.arr IntKind.u8 o, Seg.v (Value.int IntKind.u8 0), Seg.v (Value.int IntKind.u8 0), Seg.v (Value.int IntKind.u8 0), Seg.v (Value.int IntKind.u8 0), Seg.v (Value.int IntKind.u8 0), Seg.v (Value.int IntKind.u8 0), Seg.v (Value.int IntKind.u8 0), Seg.v (Value.int IntKind.u8 (IntKind.wrap IntKind.u8 (ishr IntKind.u64 (IntKind.wrap IntKind.u64 ((n : Nat) : Int)) 61))), Seg.v (Value.int IntKind.u8 (IntKind.wrap IntKind.u8 (ishr IntKind.u64 (ishl IntKind.u64 (IntKind.wrap IntKind.u64 ((n : Nat) : Int)) 3) 56))), Seg.v (Value.int IntKind.u8 (IntKind.wrap IntKind.u8 (ishr IntKind.u64 (ishl IntKind.u64 (IntKind.wrap IntKind.u64 ((n : Nat) : Int)) 3) 48))), Seg.v (Value.int IntKind.u8 (IntKind.wrap IntKind.u8 (ishr IntKind.u64 (ishl IntKind.u64 (IntKind.wrap IntKind.u64 ((n : Nat) : Int)) 3) 40))), Seg.v (Value.int IntKind.u8 (IntKind.wrap IntKind.u8 (ishr IntKind.u64 (ishl IntKind.u64 (IntKind.wrap IntKind.u64 ((n : Nat) : Int)) 3) 32))), Seg.v (Value.int IntKind.u8 (IntKind.wrap IntKind.u8 (ishr IntKind.u64 (ishl IntKind.u64 (IntKind.wrap IntKind.u64 ((n : Nat) : Int)) 3) 24))), Seg.v (Value.int IntKind.u8 (IntKind.wrap IntKind.u8 (ishr IntKind.u64 (ishl IntKind.u64 (IntKind.wrap IntKind.u64 ((n : Nat) : Int)) 3) 16)))] + 1) * 2 ≤ 140737488355328, widths [Seg.arr IntKind.u8 o, Seg.v (Value.int IntKind.u8 0), Seg.v (Value.int IntKind.u8 0), Seg.v (Value.int IntKind.u8 0), Seg.v (Value.int IntKind.u8 0), Seg.v (Value.int IntKind.u8 0), Seg.v (Value.int IntKind.u8 0), Seg.v (Value.int IntKind.u8 0), Seg.v (Value.int IntKind.u8 (IntKind.wrap IntKind.u8 (ishr IntKind.u64 (IntKind.wrap IntKind.u64 ((n : Nat) : Int)) 61))), Seg.v (Value.int IntKind.u8 (IntKind.wrap IntKind.u8 (ishr IntKind.u64 (ishl IntKind.u64 (IntKind.wrap IntKind.u64 ((n : Nat) : Int)) 3) 56))), Seg.v (Value.int IntKind.u8 (IntKind.wrap IntKind.u8 (ishr IntKind.u64 (ishl IntKind.u64 (IntKind.wrap IntKind.u64 ((n : Nat) : Int)) 3) 48))), Seg.v (Value.int IntKind.u8 (IntKind.wrap IntKind.u8 (ishr IntKind.u64 (ishl IntKind.u64 (IntKind.wrap IntKind.u64 ((n : Nat) : Int)) 3) 40))), Seg.v (Value.int IntKind.u8 (IntKind.wrap IntKind.u8 (ishr IntKind.u64 (ishl IntKind.u64 (IntKind.wrap IntKind.u64 ((n : Nat) : Int)) 3) 32))), Seg.v (Value.int IntKind.u8 (IntKind.wrap IntKind.u8 (ishr IntKind.u64 (ishl IntKind.u64 (IntKind.wrap IntKind.u64 ((n : Nat) : Int)) 3) 24))), Seg.v (Value.int IntKind.u8 (IntKind.wrap IntKind.u8 (ishr IntKind.u64 (ishl IntKind.u64 (IntKind.wrap IntKind.u64 ((n : Nat) : Int)) 3) 16)))] + 1 = widths [Seg.arr IntKind.u8 o, Seg.v (Value.int IntKind.u8 0), Seg.v (Value.int IntKind.u8 0), Seg.v (Value.int IntKind.u8 0), Seg.v (Value.int IntKind.u8 0), Seg.v (Value.int IntKind.u8 0), Seg.v (Value.int IntKind.u8 0), Seg.v (Value.int IntKind.u8 0), Seg.v (Value.int IntKind.u8 (IntKind.wrap IntKind.u8 (ishr IntKind.u64 (IntKind.wrap IntKind.u64 ((n : Nat) : Int)) 61))), Seg.v (Value.int IntKind.u8 (IntKind.wrap IntKind.u8 (ishr IntKind.u64 (ishl IntKind.u64 (IntKind.wrap IntKind.u64 ((n : Nat) : Int)) 3) 56))), Seg.v (Value.int IntKind.u8 (IntKind.wrap IntKind.u8 (ishr IntKind.u64 (ishl IntKind.u64 (IntKind.wrap IntKind.u64 ((n : Nat) : Int)) 3) 48))), Seg.v (Value.int IntKind.u8 (IntKind.wrap IntKind.u8 (ishr IntKind.u64 (ishl IntKind.u64 (IntKind.wrap IntKind.u64 ((n : Nat) : Int)) 3) 40))), Seg.v (Value.int IntKind.u8 (IntKind.wrap IntKind.u8 (ishr IntKind.u64 (ishl IntKind.u64 (IntKind.wrap IntKind.u64 ((n : Nat) : Int)) 3) 32))), Seg.v (Value.int IntKind.u8 (IntKind.wrap IntKind.u8 (ishr IntKind.u64 (ishl IntKind.u64 (IntKind.wrap IntKind.u64 ((n : Nat) : Int)) 3) 24))), Seg.v (Value.int IntKind.u8 (IntKind.wrap IntKind.u8 (ishr IntKind.u64 (ishl IntKind.u64 (IntKind.wrap IntKind.u64 ((n : Nat) : Int)) 3) 16))), Seg.v (Value.int IntKind.u8 (IntKind.wrap IntKind.u8 (ishr IntKind.u64 (ishl IntKind.u64 (IntKind.wrap IntKind.u64 ((n : Nat) : Int)) 3) 8)))], 1 ≤ 1, (widths [Seg.arr IntKind.u8 o, Seg.v (Value.int IntKind.u8 0), Seg.v (Value.int IntKind.u8 0), Seg.v (Value.int IntKind.u8 0), Seg.v (Value.int IntKind.u8 0), Seg.v (Value.int IntKind.u8 0), Seg.v (Value.int IntKind.u8 0), Seg.v (Value.int IntKind.u8 0), Seg.v (Value.int IntKind.u8 (IntKind.wrap IntKind.u8 (ishr IntKind.u64 (IntKind.wrap IntKind.u64 ((n : Nat) : Int)) 61))), Seg.v (Value.int IntKind.u8 (IntKind.wrap IntKind.u8 (ishr IntKind.u64 (ishl IntKind.u64 (IntKind.wrap IntKind.u64 ((n : Nat) : Int)) 3) 56))), Seg.v (Value.int IntKind.u8 (IntKind.wrap IntKind.u8 (ishr IntKind.u64 (ishl IntKind.u64 (IntKind.wrap IntKind.u64 ((n : Nat) : Int)) 3) 48))), Seg.v (Value.int IntKind.u8 (IntKind.wrap IntKind.u8 (ishr IntKind.u64 (ishl IntKind.u64 (IntKind.wrap IntKind.u64 ((n : Nat) : Int)) 3) 40))), Seg.v (Value.int IntKind.u8 (IntKind.wrap IntKind.u8 (ishr IntKind.u64 (ishl IntKind.u64 (IntKind.wrap IntKind.u64 ((n : Nat) : Int)) 3) 32))), Seg.v (Value.int IntKind.u8 (IntKind.wrap IntKind.u8 (ishr IntKind.u64 (ishl IntKind.u64 (IntKind.wrap IntKind.u64 ((n : Nat) : Int)) 3) 24))), Seg.v (Value.int IntKind.u8 (IntKind.wrap IntKind.u8 (ishr IntKind.u64 (ishl IntKind.u64 (IntKind.wrap IntKind.u64 ((n : Nat) : Int)) 3) 16))), Seg.v (Value.int IntKind.u8 (IntKind.wrap IntKind.u8 (ishr IntKind.u64 (ishl IntKind.u64 (IntKind.wrap IntKind.u64 ((n : Nat) : Int)) 3) 8)))] + 1) * 2 ≤ 140737488355328]) := by kernel_rfl

theorem tlZ_len (n : Nat) : (tlZ n).length = 16 := rfl
theorem tlO_len (k : Nat) : (tlO k).length = k + 1 := by simp [tlO]
theorem tlO_succ (k : Nat) : tlO k ++ [0] = tlO (k + 1) := by
  unfold tlO
  rw [List.cons_append, ← List.replicate_succ']
theorem tl_mod (n L : Nat) (h : n + L ≤ 1000200) : Int.tmod (IntKind.wrap IntKind.i64 (((n : Nat) : Int) + ((L : Nat) : Int))) 128 = (((n + L) % 128 : Nat) : Int) := by
  rw [w64 (by omega) (by omega), Int.tmod_eq_emod_of_nonneg (by omega)]
  omega
theorem tl_last (n k : Nat) (h : n ≤ 1000000) (hk : 1 ≤ k) (hk2 : k ≤ 130) (hm : (n + (k + 1)) % 128 = 112) (r : Nat) : Reaches Tryd.prog 0 (hdAt fTl 2 [] (r + 1)) (tlS n (tlO k) (k + 1)) [.fin] (tlE (tlO k ++ tlZ n) (k + 17)) := by
  have hrun := tl_end n (tlO k) (k + 1) r
  refine (Reaches.one (Reaches.run tyT_ok nil_ok mixed_ hrun ?_)).trans ?_
  · simp only [allP_cons, allP_nil, and_true, true_and, tB_nne, widths, Seg.width, tlO_len, Nat.add_zero]
    rw [tl_mod n (k + 1) (by omega), hm]
    omega
  · simp only [widths, Seg.width, tlO_len, Nat.add_zero]
    exact Reaches.retell (m0 := 0) (todo := [.fin]) 0 [.arr .u8 (tlO k ++ tlZ n)] (fun ρ => by simp [cOf, look, segsVals, Seg.vals, Seg.conc, tlZ])
theorem tl_rounds (n : Nat) (h : n ≤ 1000000) : ∀ (j k : Nat), k + j = padN n → 1 ≤ k → Reaches Tryd.prog 0 (hdAt fTl 2 [] (j + 1)) (tlS n (tlO k) (k + 1)) [.fin] (tlE (tailL n) (padN n + 17))
  | 0, k, e, hk => by
    have : k = padN n := by omega
    subst this
    exact tl_last n _ h hk (by unfold padN; omega) (by unfold padN; omega) 0
  | j + 1, k, e, hk => by
    have hp : padN n < 128 := by unfold padN; omega
    have hm : (n + (k + 1)) % 128 ≠ 112 := by unfold padN at e; omega
    have ih := tl_rounds n h j (k + 1) (by omega) (by omega)
    have hrun := tl_go n (tlO k) (k + 1) (j + 1)
    rw [tlO_succ] at hrun
    refine (Reaches.one (Reaches.run tyT_ok nil_ok mixed_ hrun ?_)).trans ?_
    · simp only [allP_cons, allP_nil, and_true, true_and, tB_ne, widths_o, tlO_len]
      rw [tl_mod n (k + 1) (by omega)]
      omega
    · rw [widths_o, tlO_len]
      exact ih
theorem tl_reach (n : Nat) (h : n ≤ 1000000) : Reaches Tryd.prog 0 (toAt fTl 2 []) (tlS0 n) [.fin] (tlE (tailL n) (padN n + 17)) := by
  have hmod := tl_mod n 1 (by omega)
  have hmod' : Int.tmod (IntKind.wrap IntKind.i64 (((n : Nat) : Int) + 1)) 128 = (((n + 1) % 128 : Nat) : Int) := hmod
  by_cases h0 : padN n = 0
  · refine Reaches.rounds 1 ((Reaches.one (Reaches.run tyT_ok nil_ok mixed_ (tl_end0 n 0) ?_)).trans ?_)
    · simp only [allP_cons, allP_nil, and_true, true_and, tB_nne]
      rw [hmod']
      unfold padN at h0
      omega
    · have e : tailL n = [128] ++ tlZ n := by unfold tailL; rw [h0]; rfl
      rw [h0, e]
      exact Reaches.retell (m0 := 0) (todo := [.fin]) 0 [.arr .u8 ([128] ++ tlZ n)] (fun ρ => by simp [cOf, look, segsVals, Seg.vals, Seg.conc, tlZ])
  · refine Reaches.rounds (padN n + 1) ((Reaches.one (Reaches.run tyT_ok nil_ok mixed_ (tl_go0 n (padN n)) ?_)).trans ?_)
    · simp only [allP_cons, allP_nil, and_true, true_and, tB_ne]
      rw [hmod']
      unfold padN at h0
      omega
    · obtain ⟨j, hj⟩ : ∃ j, padN n = j + 1 := ⟨padN n - 1, by omega⟩
      have ih := tl_rounds n h j 1 (by omega) (Nat.le_refl _)
      rw [hj] at ih ⊢
      exact (Reaches.retell (m0 := 0) (todo := hdAt fTl 2 [] (j + 1)) 0 [.arr .u8 (tlO 1)] (fun ρ => by simp [cOf, look, segsVals, Seg.vals, Seg.conc, tlO])).trans ih
/-- What fills up. -/
def tlF : List CB → Option BR
  | [.av (.one (.v (.int .i64 z)))] => some { pre := 0 ≤ z ∧ z ≤ 1000000, val := .av (.one (.r 0 0 (padN z.toNat + 17) 0)), new := [⟨1, 5, [.arr .u8 (tailL z.toNat)]⟩] }
  | _ => none
theorem tl_ends (cbs : List CB) (r : BR) (hF : tlF cbs = some r) (hp : r.pre) : EndsB Tryd.prog tyT [] fTl cbs r := by
  unfold tlF at hF
  split at hF
  · rename_i z
    injection hF with hF
    subst hF
    obtain ⟨h0, h1⟩ : 0 ≤ z ∧ z ≤ 1000000 := hp
    obtain ⟨n, rfl⟩ : ∃ n : Nat, z = n := ⟨z.toNat, by omega⟩
    have hr := (FromK.run (m0 := 0) tyT_ok nil_ok mixed_ (tl_start n) trivial).trans (tl_reach n (by omega))
    exact fun κ => ⟨[.fin], _, .av (.one (.r 0 0 (padN n + 17) 0)), [0], .inr rfl, hr, by kernel_rfl, by kernel_rfl, by kernel_rfl⟩
  · cases hF
theorem tail_ent (sh : List ShB) (hs : sh.length = 1 := by rfl) : EntOK Tryd.prog 38 (entB sh tlF) :=
  ok_B tyT_ok Tryd.func38 (by kernel_rfl) (by kernel_rfl) [] (fun x hx => by cases hx) (by rw [hs]; kernel_rfl) tl_ends
end Go.Proofs.YtmhmfmnjdbehcaaDoor.Am
/- The sums' words. Conditions: none. -/
namespace Go.Proofs.YtmhmfmnjdbehcaaDoor.Am
set_option linter.unusedVariables false
set_option linter.unusedSimpArgs false
open Go Go.RowKit
set_option linter.unusedSectionVars false
variable [GT]
def keyL (n : Nat) (f : Nat → Int) : List Int := (upTo 0 n).map f
def g2 (l : List Int) (i : Nat) : Int := l.getD i 0
theorem upTo_range : ∀ (n i : Nat), upTo i n = (List.range n).map (i + ·)
  | 0, _ => rfl
  | n + 1, i => by
    rw [upTo, upTo_range n (i + 1), List.range_succ_eq_map, List.map_cons, List.map_map]
    congr 1
    exact List.map_congr_left fun j _ => by simp only [Function.comp_apply]; omega
theorem keyL_len (n : Nat) (f : Nat → Int) : (keyL n f).length = n := by simp [keyL, upTo_range]
theorem keyL_get (n : Nat) (f : Nat → Int) (i : Nat) (h : i < n) : (keyL n f).getD i 0 = f i := by
  unfold keyL
  rw [upTo_range, List.map_map, List.getD_eq_getElem?_getD, List.getElem?_map, List.getElem?_range h]
  simp
theorem keyL_congr {n : Nat} {f g : Nat → Int} (h : ∀ i, i < n → f i = g i) : keyL n f = keyL n g := by
  unfold keyL
  refine List.map_congr_left fun i hi => h i ?_
  rw [upTo_range] at hi
  simp at hi
  exact hi
theorem keyL_g2 {l : List Int} {n : Nat} (h : l.length = n) : keyL n (g2 l) = l := by
  refine List.ext_getElem (by rw [keyL_len, h]) fun i h1 h2 => ?_
  have := keyL_get n (g2 l) i (by rw [keyL_len] at h1; exact h1)
  rw [List.getD_eq_getElem?_getD, List.getElem?_eq_getElem h1] at this
  simp only [Option.getD_some] at this
  rw [this]
  simp [g2, List.getD_eq_getElem?_getD, List.getElem?_eq_getElem h2]
def setF (f : Nat → Int) (t : Nat) (v : Int) (i : Nat) : Int := match Nat.beq i t with
  | true => v
  | false => f i
theorem setF_eq (f : Nat → Int) (t : Nat) (v : Int) (i : Nat) : setF f t v i = if i = t then v else f i := by
  unfold setF
  split
  · rename_i h; rw [if_pos (Nat.eq_of_beq_eq_true h)]
  · rename_i h; rw [if_neg fun e => by rw [e, Nat.beq_refl] at h; cases h]
theorem keyL_set (n : Nat) (f : Nat → Int) (t : Nat) (v : Int) : (keyL n f).set t v = keyL n (setF f t v) := by
  refine List.ext_getElem (by rw [List.length_set, keyL_len, keyL_len]) fun i h1 h2 => ?_
  rw [keyL_len] at h2
  have e1 := keyL_get n f i h2
  have e2 := keyL_get n (setF f t v) i h2
  rw [List.getD_eq_getElem?_getD, List.getElem?_eq_getElem (by rw [keyL_len]; exact h2)] at e1 e2
  simp only [Option.getD_some] at e1 e2
  rw [List.getElem_set, e2, setF_eq]
  by_cases h : t = i
  · rw [if_pos h, if_pos h.symm]
  · rw [if_neg h, if_neg fun e => h e.symm, e1]

/-- A word turned right. -/
def rr (x : Int) (n : Nat) : Int := ior .u64 (ishl .u64 x (64 - n)) (ishr .u64 x n)
def tur2 (x : Int) (a b : Nat) : Int := ixor .u64 (ixor .u64 0 (rr x a)) (rr x b)
def tur3 (x : Int) (a b c : Nat) : Int := ixor .u64 (ixor .u64 (ixor .u64 0 (rr x a)) (rr x b)) (rr x c)
noncomputable def eTurned : Ent := inl tyT [(55, inl tyT [] noH [] 1000 Tryd.f55 [])] noH [(3, 4)] 1000 Tryd.f47 []
noncomputable def eTurned2 : Ent := inl tyT [(55, inl tyT [] noH [] 1000 Tryd.f55 [])] noH [(3, 3)] 1000 Tryd.f47 []
theorem rot_ok : OOK Tryd.prog [(55, inl tyT [] noH [] 1000 Tryd.f55 [])] := ook_of (l := [(55, inl tyT [] noH [] 1000 Tryd.f55 [])]) ⟨inl_ok tyT_ok nil_ok mixed_ Tryd.func55 (by kernel_rfl) (by kernel_rfl) _, trivial⟩
theorem turned_ent : EntOK Tryd.prog 47 eTurned := inl_ok tyT_ok rot_ok mixed_ Tryd.func47 (by kernel_rfl) (by kernel_rfl) _
theorem turned2_ent : EntOK Tryd.prog 47 eTurned2 := inl_ok tyT_ok rot_ok mixed_ Tryd.func47 (by kernel_rfl) (by kernel_rfl) _

noncomputable abbrev fWd : Func := Tryd.f46
noncomputable def wdO : List (Nat × Ent) := [(47, eTurned2)]
theorem wdO_ok : OOK Tryd.prog wdO := ook_of (l := [(47, eTurned2)]) ⟨turned2_ent, trivial⟩
def wdS (bf lf : Nat → Int) (t : Nat) : St := { tm := tmL 77 [(0, .av (.one (.r 0 0 128 0))), (2, .av (.one (.p 1 0))), (3, .av (.one (.p 2 0))), (9, ofV (.int .i64 (t : Nat)))], hp := [(0, ⟨2, 0, [.arr .u8 (keyL 128 bf)]⟩), (1, ⟨0, 74, [.arr .u64 (keyL 80 fun _ => 0)]⟩), (2, ⟨0, 74, [.arr .u64 (keyL 80 lf)]⟩)], nx := 3, gl := [] }
def wdT (bf : Nat → Int) (l : List Int) (t : Nat) : St := { tm := tmL 77 [(0, .av (.one (.r 0 0 128 0))), (2, .av (.one (.p 1 0))), (3, .av (.one (.p 2 0))), (9, ofV (.int .i64 (t : Nat)))], hp := [(0, ⟨2, 0, [.arr .u8 (keyL 128 bf)]⟩), (1, ⟨0, 74, [.arr .u64 (keyL 80 fun _ => 0)]⟩), (2, ⟨0, 74, [.arr .u64 l]⟩)], nx := 3, gl := [] }
def wdE (lf : Nat → Int) : St := { tm := tmL 77 [(2, .av (.one (.p 0 0)))], hp := [(0, ⟨0, 74, [.arr .u64 (keyL 80 lf)]⟩)], nx := 1, gl := [] }
def wB1 (z b : Int) : Int := ior .u64 (ishl .u64 z 8) (IntKind.wrap .u64 b)
def wB8 (bf : Nat → Int) (t : Nat) (z : Int) : Int := wB1 (wB1 (wB1 (wB1 (wB1 (wB1 (wB1 (wB1 z (bf (8 * t))) (bf (8 * t + 1))) (bf (8 * t + 2))) (bf (8 * t + 3))) (bf (8 * t + 4))) (bf (8 * t + 5))) (bf (8 * t + 6))) (bf (8 * t + 7))
def sg0 (x : Int) : Int := ixor .u64 (tur2 x 1 8) (ishr .u64 x 7)
def sg1 (x : Int) : Int := ixor .u64 (tur2 x 19 61) (ishr .u64 x 6)
def wEx (a b c d : Int) : Int := IntKind.wrap .u64 (IntKind.wrap .u64 (IntKind.wrap .u64 (sg1 a + b) + sg0 c) + d)
theorem wd_start (bf : Nat → Int) : runF tyT wdO noH [] 1 [1, 2] [0, 2, 3, 9] fWd (bA [.sl .u8 (keyL 128 bf)] 0 0) (bH κ0 [.sl .u8 (keyL 128 bf)] 0 0) 1 [] = some (toAt fWd 3 [], wdS bf (fun _ => 0) 0, []) := by kernel_rfl
theorem wd_lo (bf lf : Nat → Int) (k : Nat) : ∀ t, t < 16 → runN tyT wdO noH [(7, 9)] 2000 1 [1, 2] [0, 2, 3, 9] (inAt fWd 3 [] k) (wdS bf lf t) = some (hdAt fWd 3 [] k, wdS bf (setF lf t (wB8 bf t (lf t))) (t + 1), [])
  | 0, _ => by kernel_rfl
  | 1, _ => by kernel_rfl
  | 2, _ => by kernel_rfl
  | 3, _ => by kernel_rfl
  | 4, _ => by kernel_rfl
  | 5, _ => by kernel_rfl
  | 6, _ => by kernel_rfl
  | 7, _ => by kernel_rfl
  | 8, _ => by kernel_rfl
  | 9, _ => by kernel_rfl
  | 10, _ => by kernel_rfl
  | 11, _ => by kernel_rfl
  | 12, _ => by kernel_rfl
  | 13, _ => by kernel_rfl
  | 14, _ => by kernel_rfl
  | 15, _ => by kernel_rfl
  | n + 16, h => by omega
theorem wd_hi (bf : Nat → Int) (l : List Int) (t k : Nat) : runN tyT wdO (atH 3 0 (isB true) (atH 5 1 (isB false) (atH 11 1 (isI IntKind.i64 ((t - 15 : Nat) : Int)) (atH 11 2 symH (atH 11 3 symH (atH 11 7 (isI IntKind.i64 ((t - 15 : Nat) : Int)) (atH 11 8 symH (atH 11 9 symH (atH 12 1 (isI IntKind.i64 ((t - 2 : Nat) : Int)) (atH 12 2 symH (atH 12 3 symH (atH 12 7 (isI IntKind.i64 ((t - 2 : Nat) : Int)) (atH 12 8 symH (atH 12 9 symH (atH 13 3 (isI IntKind.i64 ((t - 7 : Nat) : Int)) (atH 13 4 symH (atH 13 5 symH (atH 13 10 (isI IntKind.i64 ((t - 16 : Nat) : Int)) (atH 13 11 symH (atH 13 12 symH (atH 13 14 symH (atH 13 15 symH (atH 14 0 (isI IntKind.i64 ((t + 1 : Nat) : Int)) noH))))))))))))))))))))))) [(7, 9)] 2000 1 [1, 2] [0, 2, 3, 9] (inAt fWd 3 [] k) (wdT bf l t) = some (hdAt fWd 3 [] k, wdT bf (l.set t (wEx (l.getD (t - 2) 0) (l.getD (t - 7) 0) (l.getD (t - 15) 0) (l.getD (t - 16) 0))) (t + 1), [tB (decide (((t : Nat) : Int) < 80)) true, tB (decide (((t : Nat) : Int) < 16)) false, tI .i64 (IntKind.wrap IntKind.i64 (((t : Nat) : Int) - 15)) (((t - 15 : Nat) : Int)), 0 ≤ ((t - 15 : Nat) : Int) ∧ Int.toNat ((t - 15 : Nat) : Int) ≤ 80 - 1, Int.toNat ((t - 15 : Nat) : Int) < l.length, tI .i64 (IntKind.wrap IntKind.i64 (((t : Nat) : Int) - 15)) (((t - 15 : Nat) : Int)), 0 ≤ ((t - 15 : Nat) : Int) ∧ Int.toNat ((t - 15 : Nat) : Int) ≤ 80 - 1, Int.toNat ((t - 15 : Nat) : Int) < l.length, tI .i64 (IntKind.wrap IntKind.i64 (((t : Nat) : Int) - 2)) (((t - 2 : Nat) : Int)), 0 ≤ ((t - 2 : Nat) : Int) ∧ Int.toNat ((t - 2 : Nat) : Int) ≤ 80 - 1, Int.toNat ((t - 2 : Nat) : Int) < l.length, tI .i64 (IntKind.wrap IntKind.i64 (((t : Nat) : Int) - 2)) (((t - 2 : Nat) : Int)), 0 ≤ ((t - 2 : Nat) : Int) ∧ Int.toNat ((t - 2 : Nat) : Int) ≤ 80 - 1, Int.toNat ((t - 2 : Nat) : Int) < l.length, tI .i64 (IntKind.wrap IntKind.i64 (((t : Nat) : Int) - 7)) (((t - 7 : Nat) : Int)), 0 ≤ ((t - 7 : Nat) : Int) ∧ Int.toNat ((t - 7 : Nat) : Int) ≤ 80 - 1, Int.toNat ((t - 7 : Nat) : Int) < l.length, tI .i64 (IntKind.wrap IntKind.i64 (((t : Nat) : Int) - 16)) (((t - 16 : Nat) : Int)), 0 ≤ ((t - 16 : Nat) : Int) ∧ Int.toNat ((t - 16 : Nat) : Int) ≤ 80 - 1, Int.toNat ((t - 16 : Nat) : Int) < l.length, 0 ≤ ((t : Nat) : Int) ∧ Int.toNat ((t : Nat) : Int) ≤ 80 - 1, t < l.length, tI .i64 (IntKind.wrap IntKind.i64 (((t : Nat) : Int) + 1)) (((t + 1 : Nat) : Int))]) := by kernel_rfl
theorem wd_end (bf lf : Nat → Int) (k : Nat) : runN tyT wdO noH [] 2000 0 [1] [2] (inAt fWd 3 [] k) (wdS bf lf 80) = some ([.fin], wdE lf, []) := by kernel_rfl
end Go.Proofs.YtmhmfmnjdbehcaaDoor.Am
/- The sums' words: the contract. Conditions: none. -/
namespace Go.Proofs.YtmhmfmnjdbehcaaDoor.Am
set_option linter.unusedVariables false
set_option linter.unusedSimpArgs false
open Go Go.RowKit
set_option linter.unusedSectionVars false
variable [GT]
def wdNx (bf : Nat → Int) (t : Nat) (f : Nat → Int) : Int := if t < 16 then wB8 bf t (f t) else wEx (f (t - 2)) (f (t - 7)) (f (t - 15)) (f (t - 16))
def wdN (bf : Nat → Int) : Nat → Nat → Int
  | 0 => fun _ => 0
  | n + 1 => setF (wdN bf n) n (wdNx bf n (wdN bf n))
/-- A block's words. -/
def wordsL (b : List Int) : List Int := keyL 80 (wdN (g2 b) 80)
theorem wd_step (bf lf : Nat → Int) (t k : Nat) (h : t < 80) : Reaches Tryd.prog 0 (inAt fWd 3 [] k) (wdS bf lf t) (hdAt fWd 3 [] k) (wdS bf (setF lf t (wdNx bf t lf)) (t + 1)) := by
  unfold wdNx
  by_cases h16 : t < 16
  · rw [if_pos h16]
    exact Reaches.run tyT_ok wdO_ok mixed_ (wd_lo bf lf k t h16) trivial
  · rw [if_neg h16]
    have hrun := wd_hi bf (keyL 80 lf) t k
    rw [keyL_get 80 lf _ (by omega), keyL_get 80 lf _ (by omega), keyL_get 80 lf _ (by omega), keyL_get 80 lf _ (by omega), keyL_set] at hrun
    refine Reaches.run tyT_ok wdO_ok mixed_ hrun ?_
    simp only [allP_cons, allP_nil, and_true, true_and, tB_lt, tB_nlt, tI_iff, keyL_len, Int.toNat_natCast]
    have e1 := w64 (z := ((t : Nat) : Int) - 15) (by omega) (by omega)
    have e2 := w64 (z := ((t : Nat) : Int) - 2) (by omega) (by omega)
    have e3 := w64 (z := ((t : Nat) : Int) - 7) (by omega) (by omega)
    have e4 := w64 (z := ((t : Nat) : Int) - 16) (by omega) (by omega)
    have e5 := w64 (z := ((t : Nat) : Int) + 1) (by omega) (by omega)
    omega
theorem wd_rounds (bf : Nat → Int) : ∀ (k t : Nat), t + k = 80 → Reaches Tryd.prog 0 (hdAt fWd 3 [] (k + 1)) (wdS bf (wdN bf t) t) [.fin] (wdE (wdN bf 80))
  | 0, t, h => by
    obtain rfl : t = 80 := by omega
    exact Reaches.one (Reaches.run tyT_ok wdO_ok mixed_ (wd_end bf _ 0) trivial)
  | k + 1, t, h => (Reaches.one (wd_step bf (wdN bf t) t (k + 1) (by omega))).trans (wd_rounds bf k (t + 1) (by omega))
def wdF : List CB → Option BR
  | [.sl .u8 b] => some { pre := b.length = 128, val := .av (.one (.arr .u64 (wordsL b))) }
  | _ => none
theorem wd_ends (cbs : List CB) (r : BR) (hF : wdF cbs = some r) (hp : r.pre) : EndsB Tryd.prog tyT [] fWd cbs r := by
  unfold wdF at hF
  split at hF
  · rename_i b
    injection hF with hF
    subst hF
    have hl : b.length = 128 := hp
    have hr := (FromK.run (m0 := 0) tyT_ok wdO_ok mixed_ (wd_start (g2 b)) trivial).trans (Reaches.rounds 81 (wd_rounds (g2 b) 80 0 rfl))
    rw [keyL_g2 hl] at hr
    exact fun κ => ⟨[.fin], _, .av (.one (.arr .u64 (wordsL b))), [], .inr rfl, hr, by kernel_rfl, by kernel_rfl, by kernel_rfl⟩
  · cases hF
theorem words_ent (sh : List ShB) (hs : sh.length = 1 := by rfl) : EntOK Tryd.prog 46 (entB sh wdF) :=
  ok_B tyT_ok Tryd.func46 (by kernel_rfl) (by kernel_rfl) [] (fun x hx => by cases hx) (by rw [hs]; kernel_rfl) wd_ends
end Go.Proofs.YtmhmfmnjdbehcaaDoor.Am
/- The package's variables that are known: the sums' constants. Conditions: none. -/
namespace Go.Proofs.YtmhmfmnjdbehcaaDoor.Am
set_option linter.unusedVariables false
set_option linter.unusedSimpArgs false
open Go
def kStart512 : List Int := [7640891576956012808, 13503953896175478587, 4354685564936845355, 11912009170470909681, 5840696475078001361, 11170449401992604703, 2270897969802886507, 6620516959819538809]
def kStart384 : List Int := [14680500436340154072, 7105036623409894663, 10473403895298186519, 1526699215303891257, 7436329637833083697, 10282925794625328401, 15784041429090275239, 5167115440072839076]
def kRounds : List Int := [4794697086780616226, 8158064640168781261, 13096744586834688815, 16840607885511220156, 4131703408338449720, 6480981068601479193, 10538285296894168987, 12329834152419229976, 15566598209576043074, 1334009975649890238, 2608012711638119052, 6128411473006802146, 8268148722764581231, 9286055187155687089, 11230858885718282805, 13951009754708518548, 16472876342353939154, 17275323862435702243, 1135362057144423861, 2597628984639134821, 3308224258029322869, 5365058923640841347, 6679025012923562964, 8573033837759648693, 10970295158949994411, 12119686244451234320, 12683024718118986047, 13788192230050041572, 14330467153632333762, 15395433587784984357, 489312712824947311, 1452737877330783856, 2861767655752347644, 3322285676063803686, 5560940570517711597, 5996557281743188959, 7280758554555802590, 8532644243296465576, 9350256976987008742, 10552545826968843579, 11727347734174303076, 12113106623233404929, 14000437183269869457, 14369950271660146224, 15101387698204529176, 15463397548674623760, 17586052441742319658, 1182934255886127544, 1847814050463011016, 2177327727835720531, 2830643537854262169, 3796741975233480872, 4115178125766777443, 5681478168544905931, 6601373596472566643, 7507060721942968483, 8399075790359081724, 8693463985226723168, 9568029438360202098, 10144078919501101548, 10430055236837252648, 11840083180663258601, 13761210420658862357, 14299343276471374635, 14566680578165727644, 15097957966210449927, 16922976911328602910, 17689382322260857208, 500013540394364858, 748580250866718886, 1242879168328830382, 1977374033974150939, 2944078676154940804, 3659926193048069267, 4368137639120453308, 4836135668995329356, 5532061633213252278, 6448918945643986474, 6902733635092675308, 7801388544844847127]
variable [GT]
/-- A table of constants is known. -/
class G512 [GT] : Prop where
  h : (0, kStart512.map (Value.int .u64)) ∈ GT.tab
/-- A table of constants is known. -/
class G384 [GT] : Prop where
  h : (1, kStart384.map (Value.int .u64)) ∈ GT.tab
/-- A table of constants is known. -/
class GRnd [GT] : Prop where
  h : (2, kRounds.map (Value.int .u64)) ∈ GT.tab
end Go.Proofs.YtmhmfmnjdbehcaaDoor.Am
/- The sums' block. Conditions: none. -/
namespace Go.Proofs.YtmhmfmnjdbehcaaDoor.Am
set_option linter.unusedVariables false
set_option linter.unusedSimpArgs false
open Go Go.RowKit
set_option linter.unusedSectionVars false
variable [GT] [GRnd]
noncomputable abbrev fBk : Func := Tryd.f36
noncomputable def bkO : List (Nat × Ent) := [(47, eTurned), (46, entB [.sw .u8] wdF)]
theorem bkO_ok : OOK Tryd.prog bkO := ook_of (l := [(47, eTurned), (46, entB [.sw .u8] wdF)]) ⟨turned_ent, words_ent _, trivial⟩
def bkB (sf : Nat → Int) (b : List Int) (i : Nat) (n z : Int) : List CB := [.mu 63 [.ag .u64 (keyL 8 sf), .kp i, .sg (.v (.int .i64 n)), .sg (.v (.int .i64 z))], .sl .u8 b]
def bkC (x : Value) (sf : Nat → Int) (n z : Int) : List Seg := [.arr .u64 (keyL 8 sf), .v x, .v (.int .i64 n), .v (.int .i64 z)]
def bkS (x : Value) (n z : Int) (sf wf : Nat → Int) (b : List Int) (c : List Seg) (t : Nat) : St := { tm := tmL 95 [(0, .av (.one (.p 0 0))), (4, .av (.one (.p 3 0))), (16, .av (.one (.arr .u64 (keyL 80 wf)))), (17, ofV (.int .i64 (t : Nat)))], hp := [(0, ⟨0, 63, bkC x sf n z⟩), (1, ⟨2, 0, [.arr .u8 b]⟩), (2, ⟨2, 0, [.arr .u64 kRounds]⟩), (3, ⟨0, 61, c⟩)], nx := 4, gl := [(2, 2)] }
def bkE (x : Value) (n z : Int) (sf : Nat → Int) (b : List Int) : St := { tm := tmL 95 [], hp := [(0, ⟨0, 63, bkC x sf n z⟩), (1, ⟨2, 0, [.arr .u8 b]⟩), (2, ⟨2, 0, [.arr .u64 kRounds]⟩)], nx := 3, gl := [(2, 2)] }
def chE (e f g : Int) : Int := ixor .u64 (iand .u64 e f) (iand .u64 (ixor .u64 18446744073709551615 e) g)
def mjE (a b c : Int) : Int := ixor .u64 (ixor .u64 (iand .u64 a b) (iand .u64 a c)) (iand .u64 b c)
def t1E (v : Nat → Int) (k w : Int) : Int := IntKind.wrap .u64 (IntKind.wrap .u64 (IntKind.wrap .u64 (IntKind.wrap .u64 (v 7 + tur3 (v 4) 14 18 41) + chE (v 4) (v 5) (v 6)) + k) + w)
def t2E (v : Nat → Int) : Int := IntKind.wrap .u64 (tur3 (v 0) 28 34 39 + mjE (v 0) (v 1) (v 2))
/-- A round. -/
def rdE (v : Nat → Int) (k w : Int) : Nat → Int
  | 0 => IntKind.wrap .u64 (t1E v k w + t2E v)
  | 4 => IntKind.wrap .u64 (v 3 + t1E v k w)
  | i + 1 => v i
theorem bk_start (κ : Nat → Value) (sf bf : Nat → Int) (i : Nat) (n z : Int) : runF tyT bkO noH [] 3 [3] [0, 4, 16, 17] fBk (bA (bkB sf (keyL 128 bf) i n z) 0 1) (bH κ (bkB sf (keyL 128 bf) i n z) 0 1 ++ gH [(2, .u64, kRounds)] 2) 3 (gL [(2, .u64, kRounds)] 2) = some (toAt fBk 2 [], bkS (κ i) n z sf (wdN (g2 (keyL 128 bf)) 80) (keyL 128 bf) [.arr .u64 (keyL 8 sf)] 0, [128 = (keyL 128 bf).length, (keyL 128 bf).length = 128]) := by kernel_rfl
theorem bk_go (x : Value) (n z : Int) (sf wf vf : Nat → Int) (b : List Int) (t k : Nat) : runN tyT bkO (atH 2 0 (isB true) (atH 3 1 symH (atH 5 18 symH (atH 5 19 symH (atH 10 0 (isI .i64 ((t + 1 : Nat) : Int)) noH))))) [] 2000 3 [3] [0, 4, 16, 17] (inAt fBk 2 [] k) (bkS x n z sf wf b [.arr .u64 (keyL 8 vf)] t) = some (hdAt fBk 2 [] k, bkS x n z sf wf b [.arr .u64 [rdE vf (kRounds.getD t 0) ((keyL 80 wf).getD t 0) 0], .arr .u64 [vf 0, vf 1, vf 2, rdE vf (kRounds.getD t 0) ((keyL 80 wf).getD t 0) 4, vf 4, vf 5, vf 6]] (t + 1), [tB (decide ((t : Int) < 80)) true, 0 ≤ (t : Int) ∧ t ≤ 80 - 1, t < 80, 0 ≤ (t : Int) ∧ t ≤ 80 - 1, t < 80, tI .i64 (IntKind.wrap .i64 ((t : Int) + 1)) ((t + 1 : Nat) : Int)]) := by kernel_rfl
theorem bk_end (x : Value) (n z : Int) (sf wf vf : Nat → Int) (b : List Int) (k : Nat) : runN tyT bkO noH [(12, 9)] 2000 3 [] [] (inAt fBk 2 [] k) (bkS x n z sf wf b [.arr .u64 (keyL 8 vf)] 80) = some ([], bkE x n z (fun i => IntKind.wrap .u64 (sf i + vf i)) b, []) := by kernel_rfl
end Go.Proofs.YtmhmfmnjdbehcaaDoor.Am
/- Words of 64 bits: turning, choosing (plain law). Conditions: none. -/
namespace Go.Proofs.YtmhmfmnjdbehcaaDoor.Am
set_option linter.unusedVariables false
set_option linter.unusedSimpArgs false
open Go
theorem wU_def (z : Int) : IntKind.wrap .u64 z = z % 18446744073709551616 := by
  simp [IntKind.wrap, IntKind.signed, IntKind.bits]
theorem wU {z : Int} (h0 : 0 ≤ z) (h1 : z < 18446744073709551616) : IntKind.wrap .u64 z = z := by
  rw [wU_def]
  exact Int.emod_eq_of_lt h0 h1
/-- In a word's range. -/
def inU (z : Int) : Prop := 0 ≤ z ∧ z < 18446744073709551616
theorem wU_in (z : Int) : inU (IntKind.wrap .u64 z) := by
  rw [wU_def]
  exact ⟨by omega, by omega⟩
def V64 (z : Int) : BitVec 64 := BitVec.ofInt 64 z
theorem toNat_wU (v : BitVec 64) : IntKind.wrap .u64 (v.toNat : Int) = v.toNat := by
  have := v.isLt
  exact wU (by omega) (by omega)
theorem V64_toNat (v : BitVec 64) : V64 (v.toNat : Int) = v := by
  unfold V64
  rw [BitVec.ofInt_natCast, BitVec.ofNat_toNat, BitVec.setWidth_eq]
theorem toNat_V64 {z : Int} (h : inU z) : ((V64 z).toNat : Int) = z := by
  obtain ⟨h0, h1⟩ := h
  unfold V64
  rw [BitVec.toNat_ofInt]
  omega
theorem toNat_V64n {a : Nat} (h : a < 18446744073709551616) : (V64 (a : Int)).toNat = a := by
  have := toNat_V64 (z := (a : Int)) ⟨by omega, by omega⟩
  omega
theorem V64_inj {a b : Int} (ha : inU a) (hb : inU b) (h : V64 a = V64 b) : a = b := by
  rw [← toNat_V64 ha, h, toNat_V64 hb]
theorem V64_wrap (z : Int) : V64 (IntKind.wrap .u64 z) = V64 z := by
  apply BitVec.eq_of_toNat_eq
  unfold V64
  rw [BitVec.toNat_ofInt, BitVec.toNat_ofInt, wU_def]
  omega
theorem V64_and (a b : Int) : V64 (iand .u64 a b) = V64 a &&& V64 b := by
  show V64 (IntKind.wrap .u64 ((V64 a &&& V64 b).toNat : Int)) = _
  rw [toNat_wU, V64_toNat]
theorem V64_or (a b : Int) : V64 (ior .u64 a b) = V64 a ||| V64 b := by
  show V64 (IntKind.wrap .u64 ((V64 a ||| V64 b).toNat : Int)) = _
  rw [toNat_wU, V64_toNat]
theorem V64_xor (a b : Int) : V64 (ixor .u64 a b) = V64 a ^^^ V64 b := by
  show V64 (IntKind.wrap .u64 ((V64 a ^^^ V64 b).toNat : Int)) = _
  rw [toNat_wU, V64_toNat]
theorem V64_sub (a b : Int) : V64 (a - b) = V64 a - V64 b := by
  unfold V64
  rw [Int.sub_eq_add_neg, BitVec.ofInt_add, BitVec.ofInt_neg]
  rw [BitVec.sub_eq_add_neg]
theorem ior_in (a b : Int) : inU (ior .u64 a b) := wU_in _
theorem iand_in (a b : Int) : inU (iand .u64 a b) := wU_in _
theorem ixor_inU (a b : Int) : inU (ixor .u64 a b) := wU_in _
theorem rr_in (x : Int) (n : Nat) : inU (rr x n) := ior_in _ _
theorem ixor0 {z : Int} (h : inU z) : ixor .u64 0 z = z := V64_inj (ixor_inU _ _) h (by
  rw [V64_xor]
  show 0#64 ^^^ _ = _
  exact BitVec.zero_xor)
theorem choose_eq (e f g : Int) : ior .u64 (iand .u64 e f) (iand .u64 g (IntKind.wrap .u64 (18446744073709551615 - e))) = chE e f g := V64_inj (ior_in _ _) (ixor_inU _ _) (by
  unfold chE
  rw [V64_or, V64_and, V64_and, V64_wrap, V64_sub, V64_xor, V64_and, V64_and, V64_xor]
  have e1 : V64 18446744073709551615 = BitVec.allOnes 64 := by decide
  rw [e1, BitVec.allOnes_sub_eq_not, BitVec.allOnes_xor]
  apply BitVec.eq_of_getLsbD_eq
  intro i hi
  simp only [BitVec.getLsbD_or, BitVec.getLsbD_and, BitVec.getLsbD_xor, BitVec.getLsbD_not, hi, decide_true, Bool.true_and]
  cases (V64 e).getLsbD i <;> cases (V64 f).getLsbD i <;> cases (V64 g).getLsbD i <;> rfl)
theorem major_eq (a b c : Int) : ior .u64 (ior .u64 (iand .u64 a b) (iand .u64 a c)) (iand .u64 b c) = mjE a b c := V64_inj (ior_in _ _) (ixor_inU _ _) (by
  unfold mjE
  rw [V64_or, V64_or, V64_and, V64_and, V64_and, V64_xor, V64_xor, V64_and, V64_and, V64_and]
  apply BitVec.eq_of_getLsbD_eq
  intro i hi
  simp only [BitVec.getLsbD_or, BitVec.getLsbD_and, BitVec.getLsbD_xor]
  cases (V64 a).getLsbD i <;> cases (V64 b).getLsbD i <;> cases (V64 c).getLsbD i <;> rfl)
/-- A word turned right, by numbers. -/
def turT (X i : Nat) : Nat := X / 2 ^ i + X % 2 ^ i * 2 ^ (64 - i)
theorem turT_zero (X : Nat) : turT X 0 = X := by simp [turT, Nat.mod_one]
theorem turT_parts (X i : Nat) (hi : i < 64) : turT X i % 2 = X / 2 ^ i % 2 ∧ turT X i / 2 = X / 2 ^ i / 2 + X % 2 ^ i * 2 ^ (63 - i) := by
  have e : (2 : Nat) ^ (64 - i) = 2 ^ (63 - i) * 2 := by rw [← Nat.pow_succ]; congr 1; omega
  have e2 : turT X i = X / 2 ^ i + X % 2 ^ i * 2 ^ (63 - i) * 2 := by unfold turT; rw [e, Nat.mul_assoc]
  rw [e2]
  exact ⟨by omega, by omega⟩
theorem turT_succ (X i : Nat) (hi : i < 64) : turT X (i + 1) = turT X i / 2 + turT X i % 2 * 9223372036854775808 := by
  obtain ⟨h1, h2⟩ := turT_parts X i hi
  rw [h1, h2]
  unfold turT
  have e : 64 - (i + 1) = 63 - i := by omega
  have e3 : (2 : Nat) ^ i * 2 ^ (63 - i) = 9223372036854775808 := by rw [← Nat.pow_add]; have : i + (63 - i) = 63 := by omega
                                                                     rw [this]
  rw [e, Nat.pow_succ, ← Nat.div_div_eq_div_mul, Nat.mod_mul, Nat.add_mul, ← e3]
  generalize X / 2 ^ i = a
  rw [Nat.mul_comm (2 ^ i) (a % 2), Nat.mul_assoc, Nat.add_assoc]
theorem turT_lt (X i : Nat) (hi : i ≤ 64) (hX : X < 18446744073709551616) : turT X i < 18446744073709551616 := by
  have e3 : (2 : Nat) ^ i * 2 ^ (64 - i) = 18446744073709551616 := by rw [← Nat.pow_add]; have : i + (64 - i) = 64 := by omega
                                                                      rw [this]
  have hb : X / 2 ^ i < 2 ^ (64 - i) := by
    apply Nat.div_lt_of_lt_mul
    rw [e3]
    exact hX
  have hm : X % 2 ^ i + 1 ≤ 2 ^ i := Nat.mod_lt _ (Nat.two_pow_pos i)
  have h3 := Nat.mul_le_mul_right (2 ^ (64 - i)) hm
  rw [Nat.add_mul, e3, Nat.one_mul] at h3
  unfold turT
  omega
theorem rr_nat (X n : Nat) (h1 : 1 ≤ n) (hn : n ≤ 63) (hX : X < 18446744073709551616) : rr (X : Int) n = (turT X n : Nat) := by
  have e3 : (2 : Nat) ^ n * 2 ^ (64 - n) = 18446744073709551616 := by rw [← Nat.pow_add]; have : n + (64 - n) = 64 := by omega
                                                                      rw [this]
  have hb : X / 2 ^ n < 2 ^ (64 - n) := by
    apply Nat.div_lt_of_lt_mul
    rw [e3]
    exact hX
  have hsl : ishl .u64 (X : Int) (64 - n) = ((X % 2 ^ n * 2 ^ (64 - n) : Nat) : Int) := by
    unfold ishl
    show IntKind.wrap .u64 ((X : Int) * 2 ^ min (64 - n) 64) = _
    rw [Nat.min_eq_left (by omega), wU_def, ← Nat.mul_mod_mul_right, e3]
    rw [Int.natCast_emod, Int.natCast_mul, Int.natCast_pow]
    rfl
  have hsr : ishr .u64 (X : Int) n = ((X / 2 ^ n : Nat) : Int) := by
    unfold ishr
    show (X : Int).fdiv (2 ^ min n 64) = _
    rw [Nat.min_eq_left (by omega)]
    have : ((2 : Int) ^ n) = ((2 ^ n : Nat) : Int) := (Int.natCast_pow 2 n).symm
    rw [this, Int.natCast_ediv, Int.fdiv_eq_ediv_of_nonneg _ (Int.natCast_nonneg _)]
  have hlt := turT_lt X n (by omega) hX
  unfold turT at hlt
  unfold rr
  rw [hsl, hsr]
  unfold ior
  show IntKind.wrap .u64 ((V64 ((X % 2 ^ n * 2 ^ (64 - n) : Nat) : Int) ||| V64 ((X / 2 ^ n : Nat) : Int)).toNat : Int) = _
  rw [toNat_wU, BitVec.toNat_or]
  have t1 : (V64 ((X % 2 ^ n * 2 ^ (64 - n) : Nat) : Int)).toNat = X % 2 ^ n * 2 ^ (64 - n) := toNat_V64n (Nat.lt_of_le_of_lt (Nat.le_add_left _ _) hlt)
  have t2 : (V64 ((X / 2 ^ n : Nat) : Int)).toNat = X / 2 ^ n := toNat_V64n (Nat.lt_of_le_of_lt (Nat.le_add_right _ _) hlt)
  rw [t1, t2, Nat.mul_comm, ← Nat.two_pow_add_eq_or_of_lt hb]
  unfold turT
  rw [Nat.mul_comm (2 ^ (64 - n)), Nat.add_comm]
theorem ishr_nat (X n : Nat) (hn : n ≤ 64) : ishr .u64 (X : Int) n = ((X / 2 ^ n : Nat) : Int) := by
  unfold ishr
  show (X : Int).fdiv (2 ^ min n 64) = _
  rw [Nat.min_eq_left (by omega)]
  have : ((2 : Int) ^ n) = ((2 ^ n : Nat) : Int) := (Int.natCast_pow 2 n).symm
  rw [this, Int.natCast_ediv, Int.fdiv_eq_ediv_of_nonneg _ (Int.natCast_nonneg _)]
theorem wB1_nat (z b : Nat) (hb : b < 256) : wB1 (z : Int) b = IntKind.wrap .u64 ((z : Int) * 256 + b) := by
  unfold wB1
  apply V64_inj (ior_in _ _) (wU_in _)
  rw [V64_or, V64_wrap, V64_wrap]
  apply BitVec.eq_of_toNat_eq
  rw [BitVec.toNat_or]
  unfold V64
  rw [BitVec.toNat_ofInt, BitVec.toNat_ofInt, BitVec.toNat_ofInt]
  have e : ishl .u64 (z : Int) 8 = ((2 ^ 8 * (z % 2 ^ 56) : Nat) : Int) := by
    unfold ishl
    show IntKind.wrap .u64 ((z : Int) * 256) = _
    rw [wU_def]
    omega
  rw [e]
  have e1 : (((2 ^ 8 * (z % 2 ^ 56) : Nat) : Int) % ((2 ^ 64 : Nat) : Int)).toNat = 2 ^ 8 * (z % 2 ^ 56) := by omega
  have e2 : ((b : Int) % ((2 ^ 64 : Nat) : Int)).toNat = b := by omega
  rw [e1, e2, ← Nat.two_pow_add_eq_or_of_lt (by omega)]
  omega
end Go.Proofs.YtmhmfmnjdbehcaaDoor.Am
/- The sums' block: the contract. Conditions: none. -/
namespace Go.Proofs.YtmhmfmnjdbehcaaDoor.Am
set_option linter.unusedVariables false
set_option linter.unusedSimpArgs false
open Go Go.RowKit
set_option linter.unusedSectionVars false
variable [GT] [GRnd]
def vE (s W : Nat → Int) : Nat → Nat → Int
  | 0 => s
  | n + 1 => rdE (vE s W n) (kRounds.getD n 0) (W n)
/-- A block, taken. -/
def compL (s b : List Int) : List Int := keyL 8 fun i => IntKind.wrap .u64 (g2 s i + vE (g2 s) (wdN (g2 b) 80) 80 i)
theorem compL_len (s b : List Int) : (compL s b).length = 8 := keyL_len _ _
theorem bk_rounds (x : Value) (n z : Int) (sf wf : Nat → Int) (b : List Int) : ∀ (k t : Nat), t + k = 80 → Reaches Tryd.prog 1 (hdAt fBk 2 [] (k + 1)) (bkS x n z sf wf b [.arr .u64 (keyL 8 (vE sf wf t))] t) [] (bkE x n z (fun i => IntKind.wrap .u64 (sf i + vE sf wf 80 i)) b)
  | 0, t, h => by
    obtain rfl : t = 80 := by omega
    exact Reaches.oneK (Reaches.runK tyT_ok bkO_ok mixed_ (bk_end x n z sf wf _ b 0) trivial)
  | k + 1, t, h => by
    have hrun := bk_go x n z sf wf (vE sf wf t) b t (k + 1)
    rw [keyL_get 80 wf t (by omega)] at hrun
    have ih := bk_rounds x n z sf wf b k (t + 1) (by omega)
    have hret : Reaches Tryd.prog 1 (hdAt fBk 2 [] (k + 1)) (bkS x n z sf wf b [.arr .u64 [rdE (vE sf wf t) (kRounds.getD t 0) (wf t) 0], .arr .u64 [vE sf wf t 0, vE sf wf t 1, vE sf wf t 2, rdE (vE sf wf t) (kRounds.getD t 0) (wf t) 4, vE sf wf t 4, vE sf wf t 5, vE sf wf t 6]] (t + 1)) (hdAt fBk 2 [] (k + 1)) (bkS x n z sf wf b [.arr .u64 (keyL 8 (vE sf wf (t + 1)))] (t + 1)) :=
      Reaches.retell 3 [.arr .u64 (keyL 8 (vE sf wf (t + 1)))] (fun ρ => by kernel_rfl)
    refine (Reaches.oneK (Reaches.runK tyT_ok bkO_ok mixed_ hrun ?_)).trans (hret.trans ih)
    simp only [allP_cons, allP_nil, and_true, true_and, tB_lt, tI_iff]
    have e5 := w64 (z := ((t : Nat) : Int) + 1) (by omega) (by omega)
    omega
def bkF : List CB → Option BR
  | [.mu ty [.ag .u64 s, .kp i, .sg (.v (.int .i64 n)), .sg (.v (.int .i64 z))], .sl .u8 b] => some { pre := ty = 63 ∧ s.length = 8 ∧ b.length = 128, val := .tup [], upd := [[.s (.arr .u64 (compL s b)), .k i, .s (.v (.int .i64 n)), .s (.v (.int .i64 z))]] }
  | _ => none
def gsR : List GV := [(2, .u64, kRounds)]
theorem gsR_ok : ∀ x, x ∈ gsR → (x.1, x.2.2.map (Value.int x.2.1)) ∈ GT.tab := fun x hx => by
  simp only [gsR, List.mem_cons, List.not_mem_nil, or_false] at hx
  subst hx
  exact GRnd.h
theorem bk_ends (cbs : List CB) (r : BR) (hF : bkF cbs = some r) (hp : r.pre) : EndsB Tryd.prog tyT gsR fBk cbs r := by
  unfold bkF at hF
  split at hF
  · rename_i ty s i n z b
    injection hF with hF
    subst hF
    obtain ⟨rfl, hs, hb⟩ : ty = 63 ∧ s.length = 8 ∧ b.length = 128 := hp
    intro κ
    have h1 := FromK.run (m0 := 1) tyT_ok bkO_ok mixed_ (bk_start κ (g2 s) (g2 b) i n z) ⟨by rw [keyL_len], by rw [keyL_len], trivial⟩
    have h2 := Reaches.roundsK 81 (bk_rounds (κ i) n z (g2 s) (wdN (g2 (keyL 128 (g2 b))) 80) (keyL 128 (g2 b)) 80 0 rfl)
    have h3 := h1.trans h2
    unfold bkB at h3
    rw [keyL_g2 hb, keyL_g2 hs] at h3
    exact ⟨[], _, .tup [], [], .inl rfl, h3, by kernel_rfl, by kernel_rfl, by kernel_rfl⟩
  · cases hF
theorem block_ent (sh : List ShB) (hs : sh.length = 2 := by rfl) : EntOK Tryd.prog 36 (entB sh bkF) :=
  ok_B tyT_ok Tryd.func36 (by kernel_rfl) (by kernel_rfl) gsR gsR_ok (by rw [hs]; kernel_rfl) bk_ends
end Go.Proofs.YtmhmfmnjdbehcaaDoor.Am
/- The sums' Add, of one, two or three parts: the walk. Conditions: none. -/
namespace Go.Proofs.YtmhmfmnjdbehcaaDoor.Am
set_option linter.unusedVariables false
set_option linter.unusedSimpArgs false
open Go Go.RowKit
set_option linter.unusedSectionVars false
variable [GT] [GRnd]
noncomputable abbrev fAd : Func := Tryd.f19
noncomputable def adO : List (Nat × Ent) := [(36, entB [.mu 63 [.ag .u64 8, .kp, .sg, .sg], .sl .u8] bkF), (35, entB [.rs [.sl .u8, .sl .u8]] ccF)]
theorem adO_ok : OOK Tryd.prog adO := ook_of (l := [(36, entB [.mu 63 [.ag .u64 8, .kp, .sg, .sg], .sl .u8] bkF), (35, entB [.rs [.sl .u8, .sl .u8]] ccF)]) ⟨block_ent _, concat_ent _, trivial⟩
def adC (sf : Nat → Int) (id o L d : Nat) (n z : Int) : List Seg := [.arr .u64 (keyL 8 sf), .r id o L d, .v (.int .i64 n), .v (.int .i64 z)]

def adE (sf : Nat → Int) (l : List Int) (o L d : Nat) (n z : Int) : St := { tm := tmL 45 [], hp := [(0, ⟨0, 63, adC sf 1 o L d n z⟩), (1, ⟨1, 5, [.arr .u8 l]⟩)], nx := 2, gl := [] }
def adX1 (k : Nat) (sf : Nat → Int) (l : List Int) (o L d : Nat) (n z : Int) (cap : Nat) (p : List Int) (i : Nat) : St := { tm := tmL 45 [(0, .av (.one (.p 0 0))), (7, .av (.one (.s 2 0 1 cap))), (8, ofV (.int .i64 1)), (9, ofV (.int .i64 (i : Nat)))], hp := [(0, ⟨0, 63, adC sf 1 o L d n z⟩), (1, ⟨k, 5, [.arr .u8 l]⟩), (2, ⟨2, 0, [.r 3 0 p.length 0]⟩), (3, ⟨2, 0, [.arr .u8 p]⟩)], nx := 4, gl := [] }
def adI1 (k tq : Nat) (sf : Nat → Int) (a l : List Int) (o L d lo lL ld : Nat) (n z : Int) (cap : Nat) (p : List Int) (i : Nat) : St := { tm := tmL 45 [(0, .av (.one (.p 0 0))), (6, .av (.one (.r 1 o L d))), (7, .av (.one (.s 3 0 1 cap))), (8, ofV (.int .i64 1)), (9, ofV (.int .i64 (i : Nat)))], hp := [(0, ⟨0, 63, adC sf 2 lo lL ld n z⟩), (1, ⟨1, 5, [.arr .u8 a]⟩), (2, ⟨k, tq, [.arr .u8 l]⟩), (3, ⟨2, 0, [.r 4 0 p.length 0]⟩), (4, ⟨2, 0, [.arr .u8 p]⟩)], nx := 5, gl := [] }
def adB1 (sf : Nat → Int) (l : List Int) (n z : Int) (cap : Nat) (p : List Int) : List CB := [.mu 63 [.ag .u64 (keyL 8 sf), .sl .u8 l, .sg (.v (.int .i64 n)), .sg (.v (.int .i64 z))], .rs cap [.sl .u8 p]]
def adY1 (sf : Nat → Int) (l : List Int) (n z : Int) (cap : Nat) (p : List Int) : St := { tm := tmL 45 [(0, .av (.one (.p 0 0))), (7, .av (.one (.s 2 0 1 cap))), (8, ofV (.int .i64 1)), (9, ofV (.int .i64 0))], hp := [(0, ⟨0, 63, adC sf 1 0 l.length 0 n z⟩), (1, ⟨2, 0, [.arr .u8 l]⟩), (2, ⟨2, 0, [.r 3 0 p.length 0]⟩), (3, ⟨2, 0, [.arr .u8 p]⟩)], nx := 4, gl := [] }
theorem ad1_start (κ : Nat → Value) (sf : Nat → Int) (l : List Int) (n z : Int) (cap : Nat) (p : List Int) : runF tyT adO noH [] 1 [1, 2, 3] [0, 7, 8, 9] fAd (bA (adB1 sf l n z cap p) 0 1) (bH κ (adB1 sf l n z cap p) 0 1) 4 [] = some (toAt fAd 1 [], adY1 sf l n z cap p, []) := by kernel_rfl
theorem ad1_in0 (sf : Nat → Int) (l : List Int) (n z : Int) (cap : Nat) (p : List Int) (k_ : Nat) : runN tyT adO noH [] 2000 1 [5, 1, 2, 3] [0, 6, 7, 8, 9] (inAt fAd 1 [] k_) (adY1 sf l n z cap p) = some (toAt fAd 5 [k_], adI1 2 0 sf (cutI l 0 l.length ++ cutI p 0 p.length) l 0 ((cutI l 0 l.length).length + (cutI p 0 p.length).length) 0 0 l.length 0 (IntKind.wrap .i64 (n + (p.length : Int))) z cap p 0, [0 + l.length ≤ l.length, 0 + p.length ≤ p.length, (cutI l 0 l.length).length + (cutI p 0 p.length).length ≤ 1000000]) := by kernel_rfl
theorem ad1_go (k tq : Nat) (sf : Nat → Int) (a l : List Int) (o L d lo lL ld : Nat) (n z : Int) (cap : Nat) (p : List Int) (i j_ k_ : Nat) : runN tyT adO (atH 5 2 (isB true) (atH 6 4 symH (atH 7 1 symH noH))) [] 2000 1 [1, 2, 3, 4] [0, 6, 7, 8, 9] (inAt fAd 5 [j_] k_) (adI1 k tq sf a l o L d lo lL ld n z cap p i) = some (hdAt fAd 5 [j_] k_, adI1 k tq (g2 (compL (keyL 8 sf) (cutI a (plusO o 0) 128))) a l (plusO o 128) (L - 128) o lo lL ld n z cap p i, [tB (decide ((L : Int) ≥ 128)) true, o + L ≤ widths [Seg.arr .u8 a], (0 : Int) ≤ 128 ∧ 128 ≤ widths [Seg.arr .u8 a] - o, plusO o 0 + 128 ≤ a.length, 63 = 63 ∧ (keyL 8 sf).length = 8 ∧ (cutI a (plusO o 0) 128).length = 128, o + L ≤ widths [Seg.arr .u8 a], (0 : Int) ≤ 128 ∧ 128 ≤ L]) := by kernel_rfl
theorem ad1_out (k tq : Nat) (sf : Nat → Int) (a l : List Int) (o L d lo lL ld : Nat) (n z : Int) (cap : Nat) (p : List Int) (i j_ k_ : Nat) : runN tyT adO (atH 5 2 (isB false) (atH 9 0 (isI .i64 ((i + 1 : Nat) : Int)) noH)) [] 2000 1 [1, 3, 4] [0, 7, 8, 9] (inAt fAd 5 [j_] k_) (adI1 k tq sf a l o L d lo lL ld n z cap p i) = some (hdAt fAd 1 [] j_, adX1 1 sf a o L d n z cap p (i + 1), [tB (decide ((L : Int) ≥ 128)) false, tI .i64 (IntKind.wrap .i64 ((i : Int) + 1)) ((i + 1 : Nat) : Int)]) := by kernel_rfl
theorem ad1_end (sf : Nat → Int) (l : List Int) (o L d : Nat) (n z : Int) (cap : Nat) (p : List Int) (k_ : Nat) : runN tyT adO noH [] 2000 1 [1] [] (inAt fAd 1 [] k_) (adX1 1 sf l o L d n z cap p 1) = some ([], adE sf l o L d n z, []) := by kernel_rfl
def adX2 (k : Nat) (sf : Nat → Int) (l : List Int) (o L d : Nat) (n z : Int) (cap : Nat) (p q : List Int) (i : Nat) : St := { tm := tmL 45 [(0, .av (.one (.p 0 0))), (7, .av (.one (.s 2 0 2 cap))), (8, ofV (.int .i64 2)), (9, ofV (.int .i64 (i : Nat)))], hp := [(0, ⟨0, 63, adC sf 1 o L d n z⟩), (1, ⟨k, 5, [.arr .u8 l]⟩), (2, ⟨2, 0, [.r 3 0 p.length 0, .r 4 0 q.length 0]⟩), (3, ⟨2, 0, [.arr .u8 p]⟩), (4, ⟨2, 0, [.arr .u8 q]⟩)], nx := 5, gl := [] }
def adI2 (k tq : Nat) (sf : Nat → Int) (a l : List Int) (o L d lo lL ld : Nat) (n z : Int) (cap : Nat) (p q : List Int) (i : Nat) : St := { tm := tmL 45 [(0, .av (.one (.p 0 0))), (6, .av (.one (.r 1 o L d))), (7, .av (.one (.s 3 0 2 cap))), (8, ofV (.int .i64 2)), (9, ofV (.int .i64 (i : Nat)))], hp := [(0, ⟨0, 63, adC sf 2 lo lL ld n z⟩), (1, ⟨1, 5, [.arr .u8 a]⟩), (2, ⟨k, tq, [.arr .u8 l]⟩), (3, ⟨2, 0, [.r 4 0 p.length 0, .r 5 0 q.length 0]⟩), (4, ⟨2, 0, [.arr .u8 p]⟩), (5, ⟨2, 0, [.arr .u8 q]⟩)], nx := 6, gl := [] }
def adB2 (sf : Nat → Int) (l : List Int) (n z : Int) (cap : Nat) (p q : List Int) : List CB := [.mu 63 [.ag .u64 (keyL 8 sf), .sl .u8 l, .sg (.v (.int .i64 n)), .sg (.v (.int .i64 z))], .rs cap [.sl .u8 p, .sl .u8 q]]
def adY2 (sf : Nat → Int) (l : List Int) (n z : Int) (cap : Nat) (p q : List Int) : St := { tm := tmL 45 [(0, .av (.one (.p 0 0))), (7, .av (.one (.s 2 0 2 cap))), (8, ofV (.int .i64 2)), (9, ofV (.int .i64 0))], hp := [(0, ⟨0, 63, adC sf 1 0 l.length 0 n z⟩), (1, ⟨2, 0, [.arr .u8 l]⟩), (2, ⟨2, 0, [.r 3 0 p.length 0, .r 4 0 q.length 0]⟩), (3, ⟨2, 0, [.arr .u8 p]⟩), (4, ⟨2, 0, [.arr .u8 q]⟩)], nx := 5, gl := [] }
theorem ad2_start (κ : Nat → Value) (sf : Nat → Int) (l : List Int) (n z : Int) (cap : Nat) (p q : List Int) : runF tyT adO noH [] 1 [1, 2, 3, 4] [0, 7, 8, 9] fAd (bA (adB2 sf l n z cap p q) 0 1) (bH κ (adB2 sf l n z cap p q) 0 1) 5 [] = some (toAt fAd 1 [], adY2 sf l n z cap p q, []) := by kernel_rfl
theorem ad2_in0 (sf : Nat → Int) (l : List Int) (n z : Int) (cap : Nat) (p q : List Int) (k_ : Nat) : runN tyT adO noH [] 2000 1 [6, 1, 2, 3, 4] [0, 6, 7, 8, 9] (inAt fAd 1 [] k_) (adY2 sf l n z cap p q) = some (toAt fAd 5 [k_], adI2 2 0 sf (cutI l 0 l.length ++ cutI p 0 p.length) l 0 ((cutI l 0 l.length).length + (cutI p 0 p.length).length) 0 0 l.length 0 (IntKind.wrap .i64 (n + (p.length : Int))) z cap p q 0, [0 + l.length ≤ l.length, 0 + p.length ≤ p.length, (cutI l 0 l.length).length + (cutI p 0 p.length).length ≤ 1000000]) := by kernel_rfl
theorem ad2_in1 (sf : Nat → Int) (l : List Int) (o L d : Nat) (n z : Int) (cap : Nat) (p q : List Int) (k_ : Nat) : runN tyT adO noH [] 2000 1 [6, 1, 2, 3, 4] [0, 6, 7, 8, 9] (inAt fAd 1 [] k_) (adX2 1 sf l o L d n z cap p q 1) = some (toAt fAd 5 [k_], adI2 1 5 sf (cutI l o L ++ cutI q 0 q.length) l 0 ((cutI l o L).length + (cutI q 0 q.length).length) 0 o L d (IntKind.wrap .i64 (n + (q.length : Int))) z cap p q 1, [o + L ≤ l.length, 0 + q.length ≤ q.length, (cutI l o L).length + (cutI q 0 q.length).length ≤ 1000000]) := by kernel_rfl
theorem ad2_go (k tq : Nat) (sf : Nat → Int) (a l : List Int) (o L d lo lL ld : Nat) (n z : Int) (cap : Nat) (p q : List Int) (i j_ k_ : Nat) : runN tyT adO (atH 5 2 (isB true) (atH 6 4 symH (atH 7 1 symH noH))) [] 2000 1 [1, 2, 3, 4, 5] [0, 6, 7, 8, 9] (inAt fAd 5 [j_] k_) (adI2 k tq sf a l o L d lo lL ld n z cap p q i) = some (hdAt fAd 5 [j_] k_, adI2 k tq (g2 (compL (keyL 8 sf) (cutI a (plusO o 0) 128))) a l (plusO o 128) (L - 128) o lo lL ld n z cap p q i, [tB (decide ((L : Int) ≥ 128)) true, o + L ≤ widths [Seg.arr .u8 a], (0 : Int) ≤ 128 ∧ 128 ≤ widths [Seg.arr .u8 a] - o, plusO o 0 + 128 ≤ a.length, 63 = 63 ∧ (keyL 8 sf).length = 8 ∧ (cutI a (plusO o 0) 128).length = 128, o + L ≤ widths [Seg.arr .u8 a], (0 : Int) ≤ 128 ∧ 128 ≤ L]) := by kernel_rfl
theorem ad2_out (k tq : Nat) (sf : Nat → Int) (a l : List Int) (o L d lo lL ld : Nat) (n z : Int) (cap : Nat) (p q : List Int) (i j_ k_ : Nat) : runN tyT adO (atH 5 2 (isB false) (atH 9 0 (isI .i64 ((i + 1 : Nat) : Int)) noH)) [] 2000 1 [1, 3, 4, 5] [0, 7, 8, 9] (inAt fAd 5 [j_] k_) (adI2 k tq sf a l o L d lo lL ld n z cap p q i) = some (hdAt fAd 1 [] j_, adX2 1 sf a o L d n z cap p q (i + 1), [tB (decide ((L : Int) ≥ 128)) false, tI .i64 (IntKind.wrap .i64 ((i : Int) + 1)) ((i + 1 : Nat) : Int)]) := by kernel_rfl
theorem ad2_end (sf : Nat → Int) (l : List Int) (o L d : Nat) (n z : Int) (cap : Nat) (p q : List Int) (k_ : Nat) : runN tyT adO noH [] 2000 1 [1] [] (inAt fAd 1 [] k_) (adX2 1 sf l o L d n z cap p q 2) = some ([], adE sf l o L d n z, []) := by kernel_rfl
def adX3 (k : Nat) (sf : Nat → Int) (l : List Int) (o L d : Nat) (n z : Int) (cap : Nat) (p q r : List Int) (i : Nat) : St := { tm := tmL 45 [(0, .av (.one (.p 0 0))), (7, .av (.one (.s 2 0 3 cap))), (8, ofV (.int .i64 3)), (9, ofV (.int .i64 (i : Nat)))], hp := [(0, ⟨0, 63, adC sf 1 o L d n z⟩), (1, ⟨k, 5, [.arr .u8 l]⟩), (2, ⟨2, 0, [.r 3 0 p.length 0, .r 4 0 q.length 0, .r 5 0 r.length 0]⟩), (3, ⟨2, 0, [.arr .u8 p]⟩), (4, ⟨2, 0, [.arr .u8 q]⟩), (5, ⟨2, 0, [.arr .u8 r]⟩)], nx := 6, gl := [] }
def adI3 (k tq : Nat) (sf : Nat → Int) (a l : List Int) (o L d lo lL ld : Nat) (n z : Int) (cap : Nat) (p q r : List Int) (i : Nat) : St := { tm := tmL 45 [(0, .av (.one (.p 0 0))), (6, .av (.one (.r 1 o L d))), (7, .av (.one (.s 3 0 3 cap))), (8, ofV (.int .i64 3)), (9, ofV (.int .i64 (i : Nat)))], hp := [(0, ⟨0, 63, adC sf 2 lo lL ld n z⟩), (1, ⟨1, 5, [.arr .u8 a]⟩), (2, ⟨k, tq, [.arr .u8 l]⟩), (3, ⟨2, 0, [.r 4 0 p.length 0, .r 5 0 q.length 0, .r 6 0 r.length 0]⟩), (4, ⟨2, 0, [.arr .u8 p]⟩), (5, ⟨2, 0, [.arr .u8 q]⟩), (6, ⟨2, 0, [.arr .u8 r]⟩)], nx := 7, gl := [] }
def adB3 (sf : Nat → Int) (l : List Int) (n z : Int) (cap : Nat) (p q r : List Int) : List CB := [.mu 63 [.ag .u64 (keyL 8 sf), .sl .u8 l, .sg (.v (.int .i64 n)), .sg (.v (.int .i64 z))], .rs cap [.sl .u8 p, .sl .u8 q, .sl .u8 r]]
def adY3 (sf : Nat → Int) (l : List Int) (n z : Int) (cap : Nat) (p q r : List Int) : St := { tm := tmL 45 [(0, .av (.one (.p 0 0))), (7, .av (.one (.s 2 0 3 cap))), (8, ofV (.int .i64 3)), (9, ofV (.int .i64 0))], hp := [(0, ⟨0, 63, adC sf 1 0 l.length 0 n z⟩), (1, ⟨2, 0, [.arr .u8 l]⟩), (2, ⟨2, 0, [.r 3 0 p.length 0, .r 4 0 q.length 0, .r 5 0 r.length 0]⟩), (3, ⟨2, 0, [.arr .u8 p]⟩), (4, ⟨2, 0, [.arr .u8 q]⟩), (5, ⟨2, 0, [.arr .u8 r]⟩)], nx := 6, gl := [] }
theorem ad3_start (κ : Nat → Value) (sf : Nat → Int) (l : List Int) (n z : Int) (cap : Nat) (p q r : List Int) : runF tyT adO noH [] 1 [1, 2, 3, 4, 5] [0, 7, 8, 9] fAd (bA (adB3 sf l n z cap p q r) 0 1) (bH κ (adB3 sf l n z cap p q r) 0 1) 6 [] = some (toAt fAd 1 [], adY3 sf l n z cap p q r, []) := by kernel_rfl
theorem ad3_in0 (sf : Nat → Int) (l : List Int) (n z : Int) (cap : Nat) (p q r : List Int) (k_ : Nat) : runN tyT adO noH [] 2000 1 [7, 1, 2, 3, 4, 5] [0, 6, 7, 8, 9] (inAt fAd 1 [] k_) (adY3 sf l n z cap p q r) = some (toAt fAd 5 [k_], adI3 2 0 sf (cutI l 0 l.length ++ cutI p 0 p.length) l 0 ((cutI l 0 l.length).length + (cutI p 0 p.length).length) 0 0 l.length 0 (IntKind.wrap .i64 (n + (p.length : Int))) z cap p q r 0, [0 + l.length ≤ l.length, 0 + p.length ≤ p.length, (cutI l 0 l.length).length + (cutI p 0 p.length).length ≤ 1000000]) := by kernel_rfl
theorem ad3_in1 (sf : Nat → Int) (l : List Int) (o L d : Nat) (n z : Int) (cap : Nat) (p q r : List Int) (k_ : Nat) : runN tyT adO noH [] 2000 1 [7, 1, 2, 3, 4, 5] [0, 6, 7, 8, 9] (inAt fAd 1 [] k_) (adX3 1 sf l o L d n z cap p q r 1) = some (toAt fAd 5 [k_], adI3 1 5 sf (cutI l o L ++ cutI q 0 q.length) l 0 ((cutI l o L).length + (cutI q 0 q.length).length) 0 o L d (IntKind.wrap .i64 (n + (q.length : Int))) z cap p q r 1, [o + L ≤ l.length, 0 + q.length ≤ q.length, (cutI l o L).length + (cutI q 0 q.length).length ≤ 1000000]) := by kernel_rfl
theorem ad3_in2 (sf : Nat → Int) (l : List Int) (o L d : Nat) (n z : Int) (cap : Nat) (p q r : List Int) (k_ : Nat) : runN tyT adO noH [] 2000 1 [7, 1, 2, 3, 4, 5] [0, 6, 7, 8, 9] (inAt fAd 1 [] k_) (adX3 1 sf l o L d n z cap p q r 2) = some (toAt fAd 5 [k_], adI3 1 5 sf (cutI l o L ++ cutI r 0 r.length) l 0 ((cutI l o L).length + (cutI r 0 r.length).length) 0 o L d (IntKind.wrap .i64 (n + (r.length : Int))) z cap p q r 2, [o + L ≤ l.length, 0 + r.length ≤ r.length, (cutI l o L).length + (cutI r 0 r.length).length ≤ 1000000]) := by kernel_rfl
theorem ad3_go (k tq : Nat) (sf : Nat → Int) (a l : List Int) (o L d lo lL ld : Nat) (n z : Int) (cap : Nat) (p q r : List Int) (i j_ k_ : Nat) : runN tyT adO (atH 5 2 (isB true) (atH 6 4 symH (atH 7 1 symH noH))) [] 2000 1 [1, 2, 3, 4, 5, 6] [0, 6, 7, 8, 9] (inAt fAd 5 [j_] k_) (adI3 k tq sf a l o L d lo lL ld n z cap p q r i) = some (hdAt fAd 5 [j_] k_, adI3 k tq (g2 (compL (keyL 8 sf) (cutI a (plusO o 0) 128))) a l (plusO o 128) (L - 128) o lo lL ld n z cap p q r i, [tB (decide ((L : Int) ≥ 128)) true, o + L ≤ widths [Seg.arr .u8 a], (0 : Int) ≤ 128 ∧ 128 ≤ widths [Seg.arr .u8 a] - o, plusO o 0 + 128 ≤ a.length, 63 = 63 ∧ (keyL 8 sf).length = 8 ∧ (cutI a (plusO o 0) 128).length = 128, o + L ≤ widths [Seg.arr .u8 a], (0 : Int) ≤ 128 ∧ 128 ≤ L]) := by kernel_rfl
theorem ad3_out (k tq : Nat) (sf : Nat → Int) (a l : List Int) (o L d lo lL ld : Nat) (n z : Int) (cap : Nat) (p q r : List Int) (i j_ k_ : Nat) : runN tyT adO (atH 5 2 (isB false) (atH 9 0 (isI .i64 ((i + 1 : Nat) : Int)) noH)) [] 2000 1 [1, 3, 4, 5, 6] [0, 7, 8, 9] (inAt fAd 5 [j_] k_) (adI3 k tq sf a l o L d lo lL ld n z cap p q r i) = some (hdAt fAd 1 [] j_, adX3 1 sf a o L d n z cap p q r (i + 1), [tB (decide ((L : Int) ≥ 128)) false, tI .i64 (IntKind.wrap .i64 ((i : Int) + 1)) ((i + 1 : Nat) : Int)]) := by kernel_rfl
theorem ad3_end (sf : Nat → Int) (l : List Int) (o L d : Nat) (n z : Int) (cap : Nat) (p q r : List Int) (k_ : Nat) : runN tyT adO noH [] 2000 1 [1] [] (inAt fAd 1 [] k_) (adX3 1 sf l o L d n z cap p q r 3) = some ([], adE sf l o L d n z, []) := by kernel_rfl
end Go.Proofs.YtmhmfmnjdbehcaaDoor.Am
/- The sums' Add: the contract. Conditions: none. -/
namespace Go.Proofs.YtmhmfmnjdbehcaaDoor.Am
set_option linter.unusedVariables false
set_option linter.unusedSimpArgs false
open Go Go.RowKit
set_option linter.unusedSectionVars false
variable [GT] [GRnd]
/-- So many blocks of a row, taken. -/
def abN (s a : List Int) : Nat → List Int
  | 0 => s
  | k + 1 => compL (abN s a k) ((a.drop (128 * k)).take 128)
def KN (a : List Int) : Nat := a.length / 128
/-- What is left of a row. -/
def lf (a : List Int) : List Int := cutI a (128 * KN a) (a.length - 128 * KN a)
/-- All blocks of a row, taken. -/
def abA (s a : List Int) : List Int := abN s a (KN a)
theorem abN_len {s : List Int} (h : s.length = 8) (a : List Int) : ∀ k, (abN s a k).length = 8
  | 0 => h
  | k + 1 => compL_len _ _
theorem abA_len {s : List Int} (h : s.length = 8) (a : List Int) : (abA s a).length = 8 := abN_len h a _
theorem lf_eq (a : List Int) : lf a = a.drop (128 * KN a) := by
  unfold lf
  rw [cutI_eq, List.take_of_length_le]
  rw [List.length_drop]
  omega
theorem lf_len (a : List Int) : (lf a).length = a.length % 128 := by
  rw [lf_eq, List.length_drop]
  unfold KN
  omega
theorem KN_le (a : List Int) : 128 * KN a ≤ a.length := by
  unfold KN
  omega
theorem plusO_add (a b : Nat) : plusO a b = a + b := by
  unfold plusO
  split
  · rename_i h
    have := Nat.eq_of_beq_eq_true h
    subst this
    exact (Nat.zero_add _).symm
  · rfl
theorem cut_blk (a : List Int) (j : Nat) : cutI a (plusO (128 * j) 0) 128 = (a.drop (128 * j)).take 128 := by
  rw [cutI_eq, plusO_add, Nat.add_zero]

theorem ad1_inner (k tq : Nat) (s : List Int) (hs : s.length = 8) (a l : List Int) (lo lL ld : Nat) (n z : Int) (cap : Nat) (p : List Int) (i jj : Nat) (hi : i ≤ 10) : ∀ (r j : Nat), j + r = KN a → Reaches Tryd.prog 1 (hdAt fAd 5 [jj] (r + 1)) (adI1 k tq (g2 (abN s a j)) a l (128 * j) (a.length - 128 * j) (128 * (j - 1)) lo lL ld n z cap p i) (hdAt fAd 1 [] jj) (adX1 1 (g2 (abA s a)) a (128 * KN a) (a.length - 128 * KN a) (128 * (KN a - 1)) n z cap p (i + 1))
  | 0, j, h => by
    obtain rfl : j = KN a := by omega
    refine Reaches.oneK (Reaches.runK tyT_ok adO_ok mixed_ (ad1_out k tq _ a l _ _ _ lo lL ld n z cap p i jj 0) ?_)
    have e5 := w64 (z := ((i : Nat) : Int) + 1) (by omega) (by omega)
    simp only [allP_cons, allP_nil, and_true, true_and, tB_nge, tI_iff]
    unfold KN
    omega
  | r + 1, j, h => by
    have hj : 128 * (j + 1) ≤ a.length := by unfold KN at h; omega
    have hrun := ad1_go k tq (g2 (abN s a j)) a l (128 * j) (a.length - 128 * j) (128 * (j - 1)) lo lL ld n z cap p i jj (r + 1)
    have hl : ((a.drop (128 * j)).take 128).length = 128 := by rw [List.length_take, List.length_drop]; omega
    rw [keyL_g2 (abN_len hs a j), cut_blk, plusO_add, plusO_add] at hrun
    have ih := ad1_inner k tq s hs a l lo lL ld n z cap p i jj hi r (j + 1) (by omega)
    rw [show a.length - 128 * j - 128 = a.length - 128 * (j + 1) by omega, show 128 * j + 128 = 128 * (j + 1) by omega] at hrun
    rw [show j + 1 - 1 = j by omega] at ih
    refine (Reaches.oneK (Reaches.runK tyT_ok adO_ok mixed_ hrun ?_)).trans ih
    simp only [allP_cons, allP_nil, and_true, true_and, tB_ge, widths_o, hl, abN_len hs a j]
    omega
theorem ad1_inn (k tq : Nat) (s : List Int) (hs : s.length = 8) (a l : List Int) (lo lL ld : Nat) (n z : Int) (cap : Nat) (p : List Int) (i jj : Nat) (hi : i ≤ 10) : Reaches Tryd.prog 1 (toAt fAd 5 [jj]) (adI1 k tq (g2 s) a l 0 a.length 0 lo lL ld n z cap p i) (hdAt fAd 1 [] jj) (adX1 1 (g2 (abA s a)) a (128 * KN a) (a.length - 128 * KN a) (128 * (KN a - 1)) n z cap p (i + 1)) :=
  Reaches.roundsK (KN a + 1) (ad1_inner k tq s hs a l lo lL ld n z cap p i jj hi (KN a) 0 (Nat.zero_add _))
theorem ad2_inner (k tq : Nat) (s : List Int) (hs : s.length = 8) (a l : List Int) (lo lL ld : Nat) (n z : Int) (cap : Nat) (p q : List Int) (i jj : Nat) (hi : i ≤ 10) : ∀ (r j : Nat), j + r = KN a → Reaches Tryd.prog 1 (hdAt fAd 5 [jj] (r + 1)) (adI2 k tq (g2 (abN s a j)) a l (128 * j) (a.length - 128 * j) (128 * (j - 1)) lo lL ld n z cap p q i) (hdAt fAd 1 [] jj) (adX2 1 (g2 (abA s a)) a (128 * KN a) (a.length - 128 * KN a) (128 * (KN a - 1)) n z cap p q (i + 1))
  | 0, j, h => by
    obtain rfl : j = KN a := by omega
    refine Reaches.oneK (Reaches.runK tyT_ok adO_ok mixed_ (ad2_out k tq _ a l _ _ _ lo lL ld n z cap p q i jj 0) ?_)
    have e5 := w64 (z := ((i : Nat) : Int) + 1) (by omega) (by omega)
    simp only [allP_cons, allP_nil, and_true, true_and, tB_nge, tI_iff]
    unfold KN
    omega
  | r + 1, j, h => by
    have hj : 128 * (j + 1) ≤ a.length := by unfold KN at h; omega
    have hrun := ad2_go k tq (g2 (abN s a j)) a l (128 * j) (a.length - 128 * j) (128 * (j - 1)) lo lL ld n z cap p q i jj (r + 1)
    have hl : ((a.drop (128 * j)).take 128).length = 128 := by rw [List.length_take, List.length_drop]; omega
    rw [keyL_g2 (abN_len hs a j), cut_blk, plusO_add, plusO_add] at hrun
    have ih := ad2_inner k tq s hs a l lo lL ld n z cap p q i jj hi r (j + 1) (by omega)
    rw [show a.length - 128 * j - 128 = a.length - 128 * (j + 1) by omega, show 128 * j + 128 = 128 * (j + 1) by omega] at hrun
    rw [show j + 1 - 1 = j by omega] at ih
    refine (Reaches.oneK (Reaches.runK tyT_ok adO_ok mixed_ hrun ?_)).trans ih
    simp only [allP_cons, allP_nil, and_true, true_and, tB_ge, widths_o, hl, abN_len hs a j]
    omega
theorem ad2_inn (k tq : Nat) (s : List Int) (hs : s.length = 8) (a l : List Int) (lo lL ld : Nat) (n z : Int) (cap : Nat) (p q : List Int) (i jj : Nat) (hi : i ≤ 10) : Reaches Tryd.prog 1 (toAt fAd 5 [jj]) (adI2 k tq (g2 s) a l 0 a.length 0 lo lL ld n z cap p q i) (hdAt fAd 1 [] jj) (adX2 1 (g2 (abA s a)) a (128 * KN a) (a.length - 128 * KN a) (128 * (KN a - 1)) n z cap p q (i + 1)) :=
  Reaches.roundsK (KN a + 1) (ad2_inner k tq s hs a l lo lL ld n z cap p q i jj hi (KN a) 0 (Nat.zero_add _))
theorem ad3_inner (k tq : Nat) (s : List Int) (hs : s.length = 8) (a l : List Int) (lo lL ld : Nat) (n z : Int) (cap : Nat) (p q u : List Int) (i jj : Nat) (hi : i ≤ 10) : ∀ (r j : Nat), j + r = KN a → Reaches Tryd.prog 1 (hdAt fAd 5 [jj] (r + 1)) (adI3 k tq (g2 (abN s a j)) a l (128 * j) (a.length - 128 * j) (128 * (j - 1)) lo lL ld n z cap p q u i) (hdAt fAd 1 [] jj) (adX3 1 (g2 (abA s a)) a (128 * KN a) (a.length - 128 * KN a) (128 * (KN a - 1)) n z cap p q u (i + 1))
  | 0, j, h => by
    obtain rfl : j = KN a := by omega
    refine Reaches.oneK (Reaches.runK tyT_ok adO_ok mixed_ (ad3_out k tq _ a l _ _ _ lo lL ld n z cap p q u i jj 0) ?_)
    have e5 := w64 (z := ((i : Nat) : Int) + 1) (by omega) (by omega)
    simp only [allP_cons, allP_nil, and_true, true_and, tB_nge, tI_iff]
    unfold KN
    omega
  | r + 1, j, h => by
    have hj : 128 * (j + 1) ≤ a.length := by unfold KN at h; omega
    have hrun := ad3_go k tq (g2 (abN s a j)) a l (128 * j) (a.length - 128 * j) (128 * (j - 1)) lo lL ld n z cap p q u i jj (r + 1)
    have hl : ((a.drop (128 * j)).take 128).length = 128 := by rw [List.length_take, List.length_drop]; omega
    rw [keyL_g2 (abN_len hs a j), cut_blk, plusO_add, plusO_add] at hrun
    have ih := ad3_inner k tq s hs a l lo lL ld n z cap p q u i jj hi r (j + 1) (by omega)
    rw [show a.length - 128 * j - 128 = a.length - 128 * (j + 1) by omega, show 128 * j + 128 = 128 * (j + 1) by omega] at hrun
    rw [show j + 1 - 1 = j by omega] at ih
    refine (Reaches.oneK (Reaches.runK tyT_ok adO_ok mixed_ hrun ?_)).trans ih
    simp only [allP_cons, allP_nil, and_true, true_and, tB_ge, widths_o, hl, abN_len hs a j]
    omega
theorem ad3_inn (k tq : Nat) (s : List Int) (hs : s.length = 8) (a l : List Int) (lo lL ld : Nat) (n z : Int) (cap : Nat) (p q u : List Int) (i jj : Nat) (hi : i ≤ 10) : Reaches Tryd.prog 1 (toAt fAd 5 [jj]) (adI3 k tq (g2 s) a l 0 a.length 0 lo lL ld n z cap p q u i) (hdAt fAd 1 [] jj) (adX3 1 (g2 (abA s a)) a (128 * KN a) (a.length - 128 * KN a) (128 * (KN a - 1)) n z cap p q u (i + 1)) :=
  Reaches.roundsK (KN a + 1) (ad3_inner k tq s hs a l lo lL ld n z cap p q u i jj hi (KN a) 0 (Nat.zero_add _))
/-- What a part makes: the row of what was left and it. -/
def adA (l p : List Int) : List Int := l ++ p
def adRes (s a : List Int) (n z : Int) : BR := { val := .tup [], new := [⟨1, 5, [.arr .u8 a]⟩], upd := [[.s (.arr .u64 (keyL 8 (g2 s))), .s (.r 0 (128 * KN a) (a.length - 128 * KN a) (128 * (KN a - 1))), .s (.v (.int .i64 n)), .s (.v (.int .i64 z))]] }
def adOk (ty : TypeId) (s l : List Int) (n : Int) (m : Nat) : Prop := ty = 63 ∧ s.length = 8 ∧ l.length + m ≤ 900000 ∧ 0 ≤ n ∧ n ≤ 1000000
def adF : List CB → Option BR
  | [.mu ty [.ag .u64 s, .sl .u8 l, .sg (.v (.int .i64 n)), .sg (.v (.int .i64 z))], .rs _ [.sl .u8 p]] => some { adRes (abA s (l ++ p)) (l ++ p) (n + p.length) z with pre := adOk ty s l n p.length }
  | [.mu ty [.ag .u64 s, .sl .u8 l, .sg (.v (.int .i64 n)), .sg (.v (.int .i64 z))], .rs _ [.sl .u8 p, .sl .u8 q]] => some { adRes (abA (abA s (l ++ p)) (lf (l ++ p) ++ q)) (lf (l ++ p) ++ q) (n + p.length + q.length) z with pre := adOk ty s l n (p.length + q.length) }
  | [.mu ty [.ag .u64 s, .sl .u8 l, .sg (.v (.int .i64 n)), .sg (.v (.int .i64 z))], .rs _ [.sl .u8 p, .sl .u8 q, .sl .u8 u]] => some { adRes (abA (abA (abA s (l ++ p)) (lf (l ++ p) ++ q)) (lf (lf (l ++ p) ++ q) ++ u)) (lf (lf (l ++ p) ++ q) ++ u) (n + p.length + q.length + u.length) z with pre := adOk ty s l n (p.length + q.length + u.length) }
  | _ => none
theorem lf_def (a : List Int) : cutI a (128 * KN a) (a.length - 128 * KN a) = lf a := rfl
theorem ad_ends (cbs : List CB) (r : BR) (hF : adF cbs = some r) (hp : r.pre) : EndsB Tryd.prog tyT [] fAd cbs r := by
  unfold adF at hF
  split at hF
  · rename_i ty s l n z cap p
    injection hF with hF
    subst hF
    obtain ⟨rfl, hs, hlen, h0, h1⟩ : ty = 63 ∧ s.length = 8 ∧ l.length + p.length ≤ 900000 ∧ 0 ≤ n ∧ n ≤ 1000000 := hp
    intro κ
    have hst := FromK.run (m0 := 1) tyT_ok adO_ok mixed_ (ad1_start κ (g2 s) l n z cap p) trivial
    have hin0 := ad1_in0 (g2 s) l n z cap p 1
    rw [cutI_all, cutI_all, w64 (z := n + (p.length : Int)) (by omega) (by omega), ← List.length_append] at hin0
    have r0 : Reaches Tryd.prog 1 (inAt fAd 1 [] 1) (adY1 (g2 s) l n z cap p) (hdAt fAd 1 [] 1) _ := (Reaches.runK tyT_ok adO_ok mixed_ hin0 ?_).trans (ad1_inn 2 0 s hs (l ++ p) l 0 l.length 0 (n + (p.length : Int)) z cap p 0 1 (by omega))
    have hE := ad1_end (g2 (abA s (l ++ p))) (l ++ p) (128 * KN (l ++ p)) ((l ++ p).length - 128 * KN (l ++ p)) (128 * (KN (l ++ p) - 1)) (n + (p.length : Int)) z cap p 0
    have rE : Reaches Tryd.prog 1 (inAt fAd 1 [] 0) _ [] _ := Reaches.runK tyT_ok adO_ok mixed_ hE trivial
    have hall := hst.trans (Reaches.roundsK 2 (Reaches.oneK (r0.trans (Reaches.oneK rE))))
    unfold adE adC at hall
    unfold adB1 at hall
    rw [keyL_g2 hs] at hall
    exact ⟨[], _, .tup [], [1], .inl rfl, hall, by kernel_rfl, by kernel_rfl, by kernel_rfl⟩
    · simp only [allP_cons, allP_nil, and_true, true_and, cutI_all, List.length_append]
      omega
  · rename_i ty s l n z cap p q
    injection hF with hF
    subst hF
    obtain ⟨rfl, hs, hlen, h0, h1⟩ : ty = 63 ∧ s.length = 8 ∧ l.length + (p.length + q.length) ≤ 900000 ∧ 0 ≤ n ∧ n ≤ 1000000 := hp
    intro κ
    have hst := FromK.run (m0 := 1) tyT_ok adO_ok mixed_ (ad2_start κ (g2 s) l n z cap p q) trivial
    have hin0 := ad2_in0 (g2 s) l n z cap p q 2
    rw [cutI_all, cutI_all, w64 (z := n + (p.length : Int)) (by omega) (by omega), ← List.length_append] at hin0
    have r0 : Reaches Tryd.prog 1 (inAt fAd 1 [] 2) (adY2 (g2 s) l n z cap p q) (hdAt fAd 1 [] 2) _ := (Reaches.runK tyT_ok adO_ok mixed_ hin0 ?_).trans (ad2_inn 2 0 s hs (l ++ p) l 0 l.length 0 (n + (p.length : Int)) z cap p q 0 2 (by omega))
    have hin1 := ad2_in1 (g2 (abA s (l ++ p))) (l ++ p) (128 * KN (l ++ p)) ((l ++ p).length - 128 * KN (l ++ p)) (128 * (KN (l ++ p) - 1)) (n + (p.length : Int)) z cap p q 1
    rw [lf_def, cutI_all, w64 (z := (n + (p.length : Int)) + (q.length : Int)) (by omega) (by omega), ← List.length_append] at hin1
    have r1 : Reaches Tryd.prog 1 (inAt fAd 1 [] 1) _ (hdAt fAd 1 [] 1) _ := (Reaches.runK tyT_ok adO_ok mixed_ hin1 ?_).trans (ad2_inn 1 5 (abA s (l ++ p)) (abA_len hs _) (lf (l ++ p) ++ q) (l ++ p) (128 * KN (l ++ p)) ((l ++ p).length - 128 * KN (l ++ p)) (128 * (KN (l ++ p) - 1)) ((n + (p.length : Int)) + (q.length : Int)) z cap p q 1 1 (by omega))
    have hE := ad2_end (g2 (abA (abA s (l ++ p)) (lf (l ++ p) ++ q))) (lf (l ++ p) ++ q) (128 * KN (lf (l ++ p) ++ q)) ((lf (l ++ p) ++ q).length - 128 * KN (lf (l ++ p) ++ q)) (128 * (KN (lf (l ++ p) ++ q) - 1)) ((n + (p.length : Int)) + (q.length : Int)) z cap p q 0
    have rE : Reaches Tryd.prog 1 (inAt fAd 1 [] 0) _ [] _ := Reaches.runK tyT_ok adO_ok mixed_ hE trivial
    have hall := hst.trans (Reaches.roundsK 3 (Reaches.oneK (r0.trans (Reaches.oneK (r1.trans (Reaches.oneK rE))))))
    unfold adE adC at hall
    unfold adB2 at hall
    rw [keyL_g2 hs] at hall
    exact ⟨[], _, .tup [], [1], .inl rfl, hall, by kernel_rfl, by kernel_rfl, by kernel_rfl⟩
    · have k0 := KN_le (l ++ p)
      have m1 := lf_len (l ++ p)
      simp only [List.length_append] at *
      simp only [allP_cons, allP_nil, and_true, true_and, cutI_all, lf_def, List.length_append]
      omega
    · simp only [allP_cons, allP_nil, and_true, true_and, cutI_all, List.length_append]
      omega
  · rename_i ty s l n z cap p q u
    injection hF with hF
    subst hF
    obtain ⟨rfl, hs, hlen, h0, h1⟩ : ty = 63 ∧ s.length = 8 ∧ l.length + (p.length + q.length + u.length) ≤ 900000 ∧ 0 ≤ n ∧ n ≤ 1000000 := hp
    intro κ
    have hst := FromK.run (m0 := 1) tyT_ok adO_ok mixed_ (ad3_start κ (g2 s) l n z cap p q u) trivial
    have hin0 := ad3_in0 (g2 s) l n z cap p q u 3
    rw [cutI_all, cutI_all, w64 (z := n + (p.length : Int)) (by omega) (by omega), ← List.length_append] at hin0
    have r0 : Reaches Tryd.prog 1 (inAt fAd 1 [] 3) (adY3 (g2 s) l n z cap p q u) (hdAt fAd 1 [] 3) _ := (Reaches.runK tyT_ok adO_ok mixed_ hin0 ?_).trans (ad3_inn 2 0 s hs (l ++ p) l 0 l.length 0 (n + (p.length : Int)) z cap p q u 0 3 (by omega))
    have hin1 := ad3_in1 (g2 (abA s (l ++ p))) (l ++ p) (128 * KN (l ++ p)) ((l ++ p).length - 128 * KN (l ++ p)) (128 * (KN (l ++ p) - 1)) (n + (p.length : Int)) z cap p q u 2
    rw [lf_def, cutI_all, w64 (z := (n + (p.length : Int)) + (q.length : Int)) (by omega) (by omega), ← List.length_append] at hin1
    have r1 : Reaches Tryd.prog 1 (inAt fAd 1 [] 2) _ (hdAt fAd 1 [] 2) _ := (Reaches.runK tyT_ok adO_ok mixed_ hin1 ?_).trans (ad3_inn 1 5 (abA s (l ++ p)) (abA_len hs _) (lf (l ++ p) ++ q) (l ++ p) (128 * KN (l ++ p)) ((l ++ p).length - 128 * KN (l ++ p)) (128 * (KN (l ++ p) - 1)) ((n + (p.length : Int)) + (q.length : Int)) z cap p q u 1 2 (by omega))
    have hin2 := ad3_in2 (g2 (abA (abA s (l ++ p)) (lf (l ++ p) ++ q))) (lf (l ++ p) ++ q) (128 * KN (lf (l ++ p) ++ q)) ((lf (l ++ p) ++ q).length - 128 * KN (lf (l ++ p) ++ q)) (128 * (KN (lf (l ++ p) ++ q) - 1)) ((n + (p.length : Int)) + (q.length : Int)) z cap p q u 1
    rw [lf_def, cutI_all, w64 (z := ((n + (p.length : Int)) + (q.length : Int)) + (u.length : Int)) (by omega) (by omega), ← List.length_append] at hin2
    have r2 : Reaches Tryd.prog 1 (inAt fAd 1 [] 1) _ (hdAt fAd 1 [] 1) _ := (Reaches.runK tyT_ok adO_ok mixed_ hin2 ?_).trans (ad3_inn 1 5 (abA (abA s (l ++ p)) (lf (l ++ p) ++ q)) (abA_len (abA_len hs _) _) (lf (lf (l ++ p) ++ q) ++ u) (lf (l ++ p) ++ q) (128 * KN (lf (l ++ p) ++ q)) ((lf (l ++ p) ++ q).length - 128 * KN (lf (l ++ p) ++ q)) (128 * (KN (lf (l ++ p) ++ q) - 1)) (((n + (p.length : Int)) + (q.length : Int)) + (u.length : Int)) z cap p q u 2 1 (by omega))
    have hE := ad3_end (g2 (abA (abA (abA s (l ++ p)) (lf (l ++ p) ++ q)) (lf (lf (l ++ p) ++ q) ++ u))) (lf (lf (l ++ p) ++ q) ++ u) (128 * KN (lf (lf (l ++ p) ++ q) ++ u)) ((lf (lf (l ++ p) ++ q) ++ u).length - 128 * KN (lf (lf (l ++ p) ++ q) ++ u)) (128 * (KN (lf (lf (l ++ p) ++ q) ++ u) - 1)) (((n + (p.length : Int)) + (q.length : Int)) + (u.length : Int)) z cap p q u 0
    have rE : Reaches Tryd.prog 1 (inAt fAd 1 [] 0) _ [] _ := Reaches.runK tyT_ok adO_ok mixed_ hE trivial
    have hall := hst.trans (Reaches.roundsK 4 (Reaches.oneK (r0.trans (Reaches.oneK (r1.trans (Reaches.oneK (r2.trans (Reaches.oneK rE))))))))
    unfold adE adC at hall
    unfold adB3 at hall
    rw [keyL_g2 hs] at hall
    exact ⟨[], _, .tup [], [1], .inl rfl, hall, by kernel_rfl, by kernel_rfl, by kernel_rfl⟩
    · have k0 := KN_le (l ++ p)
      have m11 := lf_len (l ++ p)
      have k1 := KN_le (lf (l ++ p) ++ q)
      have m2 := lf_len (lf (l ++ p) ++ q)
      simp only [List.length_append] at *
      simp only [allP_cons, allP_nil, and_true, true_and, cutI_all, lf_def, List.length_append]
      omega
    · have k0 := KN_le (l ++ p)
      have m1 := lf_len (l ++ p)
      simp only [List.length_append] at *
      simp only [allP_cons, allP_nil, and_true, true_and, cutI_all, lf_def, List.length_append]
      omega
    · simp only [allP_cons, allP_nil, and_true, true_and, cutI_all, List.length_append]
      omega
  · cases hF
theorem add_ent (sh : List ShB) (hs : sh.length = 2 := by rfl) : EntOK Tryd.prog 19 (entB sh adF) :=
  ok_B tyT_ok Tryd.func19 (by kernel_rfl) (by kernel_rfl) [] (fun x hx => by cases hx) (by rw [hs]; kernel_rfl) ad_ends
end Go.Proofs.YtmhmfmnjdbehcaaDoor.Am
