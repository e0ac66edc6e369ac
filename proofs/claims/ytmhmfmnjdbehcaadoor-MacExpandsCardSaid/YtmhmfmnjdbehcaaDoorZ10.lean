/- Law 03's Expands. Conditions: none. -/
import Derived.Test.YtmhmfmnjdbehcaaDoorZ9
import Derived.Test.YtmhmfmnjdbehcaaDoorRows
import Derived.LaidLaws
import Derived.Lib.LaidTab
import Derived.Test.YtmhmfmnjdbehcaaDoorZ1
set_option linter.unusedSectionVars false
namespace Go.Proofs.YtmhmfmnjdbehcaaDoor.Am
set_option linter.unusedVariables false
set_option linter.unusedSimpArgs false
open Go Go.RowKit
set_option linter.unusedSectionVars false
section
variable [GT] [GRnd]
noncomputable abbrev fLX : Func := Tryd.f8
noncomputable def lxOb : List (Nat × Ent) := [(27, eAwake3), (28, entB [.sl .u8, .sl .u8, .sl .u8, .av] xeFb), (29, entB [.sl .u8, .sl .u8, .sl .u8, .av] rxFz)]
theorem lxOb_ok [G384] : OOK Tryd.prog lxOb := ook_of (l := [(27, eAwake3), (28, entB [.sl .u8, .sl .u8, .sl .u8, .av] xeFb), (29, entB [.sl .u8, .sl .u8, .sl .u8, .av] rxFz)]) ⟨awake3_ent, expand_entb _, rexpand_entz _, trivial⟩
noncomputable def lxOz : List (Nat × Ent) := [(27, eAwake3), (28, entB [.sl .u8, .sl .u8, .sl .u8, .av] xeFz), (29, entB [.sl .u8, .sl .u8, .sl .u8, .av] rxFz)]
theorem lxOz_ok [G384] : OOK Tryd.prog lxOz := ook_of (l := [(27, eAwake3), (28, entB [.sl .u8, .sl .u8, .sl .u8, .av] xeFz), (29, entB [.sl .u8, .sl .u8, .sl .u8, .av] rxFz)]) ⟨awake3_ent, expand_entz _, rexpand_entz _, trivial⟩
noncomputable def lxO : List (Nat × Ent) := [(27, eAwake3), (28, entB [.sl .u8, .sl .u8, .sl .u8, .av] xeF), (29, entB [.sl .u8, .sl .u8, .sl .u8, .av] rxF)]
theorem lxO_ok [G384] : OOK Tryd.prog lxO := ook_of (l := [(27, eAwake3), (28, entB [.sl .u8, .sl .u8, .sl .u8, .av] xeF), (29, entB [.sl .u8, .sl .u8, .sl .u8, .av] rxF)]) ⟨awake3_ent, expand_ent _, rexpand_ent _, trivial⟩
def lxA (k s f : List Int) (n : Int) (ck cs cf : Nat) : List SV := [.av (.agg [.s 0 0 k.length ck, .s 1 0 s.length cs, .s 2 0 f.length cf, .v (.int .i64 n)])]
def lxP (k s f : List Int) : List (Nat × Blk) := [(0, ⟨2, 0, [.arr .u8 k]⟩), (1, ⟨2, 0, [.arr .u8 s]⟩), (2, ⟨2, 0, [.arr .u8 f]⟩)]
def lxE (k s f : List Int) : St := { tm := tmL 70 [(2, ofV (.bool true))], hp := lxP k s f, nx := 3, gl := [] }
theorem lx_long0 (k s f : List Int) (n : Int) (ck cs cf : Nat) : runF tyT lxOb (atH 1 8 (isB true) noH) [] 3 [] [2] fLX (lxA k s f n ck cs cf) (lxP k s f) 3 [] = some ([.fin], lxE k s f, [0 + 48 ≤ (List.replicate 48 (0 : Int)).length ∧ 48 ≤ 48, 1 ≤ 1, (cutI (List.replicate 48 (0 : Int)) 0 48).length ≤ 800000 ∧ (cutI [(107 : Int)] 0 1).length ≤ 800000, 1 ≤ 1, (cutI [(107 : Int)] 0 1).length ≤ 800000, tB (decide ((k.length : Int) > 200)) true, 0 + 48 ≤ (List.replicate 48 (0 : Int)).length ∧ 48 ≤ 48, 1 ≤ 1, (cutI (List.replicate 48 (0 : Int)) 0 48).length ≤ 800000 ∧ (cutI [(107 : Int)] 0 1).length ≤ 800000, 1 ≤ 1, (cutI [(107 : Int)] 0 1).length ≤ 800000]) := by kernel_rfl
theorem lx_long1 (k s f : List Int) (n : Int) (ck cs cf : Nat) : runF tyT lxOb (atH 1 8 (isB false) (atH 1 14 (isB true) noH)) [] 3 [] [2] fLX (lxA k s f n ck cs cf) (lxP k s f) 3 [] = some ([.fin], lxE k s f, [0 + 48 ≤ (List.replicate 48 (0 : Int)).length ∧ 48 ≤ 48, 1 ≤ 1, (cutI (List.replicate 48 (0 : Int)) 0 48).length ≤ 800000 ∧ (cutI [(107 : Int)] 0 1).length ≤ 800000, 1 ≤ 1, (cutI [(107 : Int)] 0 1).length ≤ 800000, tB (decide ((k.length : Int) > 200)) false, tB (decide ((s.length : Int) > 200)) true, 0 + 48 ≤ (List.replicate 48 (0 : Int)).length ∧ 48 ≤ 48, 1 ≤ 1, (cutI (List.replicate 48 (0 : Int)) 0 48).length ≤ 800000 ∧ (cutI [(107 : Int)] 0 1).length ≤ 800000, 1 ≤ 1, (cutI [(107 : Int)] 0 1).length ≤ 800000]) := by kernel_rfl
theorem lx_long2 (k s f : List Int) (n : Int) (ck cs cf : Nat) : runF tyT lxOb (atH 1 8 (isB false) (atH 1 14 (isB false) (atH 1 19 (isB true) noH))) [] 3 [] [2] fLX (lxA k s f n ck cs cf) (lxP k s f) 3 [] = some ([.fin], lxE k s f, [0 + 48 ≤ (List.replicate 48 (0 : Int)).length ∧ 48 ≤ 48, 1 ≤ 1, (cutI (List.replicate 48 (0 : Int)) 0 48).length ≤ 800000 ∧ (cutI [(107 : Int)] 0 1).length ≤ 800000, 1 ≤ 1, (cutI [(107 : Int)] 0 1).length ≤ 800000, tB (decide ((k.length : Int) > 200)) false, tB (decide ((s.length : Int) > 200)) false, tB (decide ((f.length : Int) > 100)) true, 0 + 48 ≤ (List.replicate 48 (0 : Int)).length ∧ 48 ≤ 48, 1 ≤ 1, (cutI (List.replicate 48 (0 : Int)) 0 48).length ≤ 800000 ∧ (cutI [(107 : Int)] 0 1).length ≤ 800000, 1 ≤ 1, (cutI [(107 : Int)] 0 1).length ≤ 800000]) := by kernel_rfl
theorem lx_bad1 (k s f : List Int) (n : Int) (ck cs cf : Nat) : runF tyT lxOb (atH 1 8 (isB false) (atH 1 14 (isB false) (atH 1 19 (isB false) (atH 4 3 (isB true) noH)))) [] 3 [] [2] fLX (lxA k s f n ck cs cf) (lxP k s f) 3 [] = some ([.fin], lxE k s f, [0 + 48 ≤ (List.replicate 48 (0 : Int)).length ∧ 48 ≤ 48, 1 ≤ 1, (cutI (List.replicate 48 (0 : Int)) 0 48).length ≤ 800000 ∧ (cutI [(107 : Int)] 0 1).length ≤ 800000, 1 ≤ 1, (cutI [(107 : Int)] 0 1).length ≤ 800000, tB (decide ((k.length : Int) > 200)) false, tB (decide ((s.length : Int) > 200)) false, tB (decide ((f.length : Int) > 100)) false, 0 + k.length ≤ k.length ∧ k.length ≤ ck, 0 + s.length ≤ s.length ∧ s.length ≤ cs, 0 + f.length ≤ f.length ∧ f.length ≤ cf, n < 0 ∨ 1000 < n, tB (decide (n < 0)) true]) := by kernel_rfl
theorem lx_bad2 (k s f : List Int) (n : Int) (ck cs cf : Nat) : runF tyT lxOb (atH 1 8 (isB false) (atH 1 14 (isB false) (atH 1 19 (isB false) (atH 4 3 (isB false) (atH 4 7 (isB true) noH))))) [] 3 [] [2] fLX (lxA k s f n ck cs cf) (lxP k s f) 3 [] = some ([.fin], lxE k s f, [0 + 48 ≤ (List.replicate 48 (0 : Int)).length ∧ 48 ≤ 48, 1 ≤ 1, (cutI (List.replicate 48 (0 : Int)) 0 48).length ≤ 800000 ∧ (cutI [(107 : Int)] 0 1).length ≤ 800000, 1 ≤ 1, (cutI [(107 : Int)] 0 1).length ≤ 800000, tB (decide ((k.length : Int) > 200)) false, tB (decide ((s.length : Int) > 200)) false, tB (decide ((f.length : Int) > 100)) false, 0 + k.length ≤ k.length ∧ k.length ≤ ck, 0 + s.length ≤ s.length ∧ s.length ≤ cs, 0 + f.length ≤ f.length ∧ f.length ≤ cf, n < 0 ∨ 1000 < n, tB (decide (n < 0)) false, tB (decide (n > 1000)) true]) := by kernel_rfl
theorem lx_nil (k s f : List Int) (n : Int) (ck cs cf : Nat) : runF tyT lxOz (atH 1 8 (isB false) (atH 1 14 (isB false) (atH 1 19 (isB false) (atH 4 3 (isB false) (atH 4 7 (isB false) noH))))) [] 3 [] [2] fLX (lxA k s f n ck cs cf) (lxP k s f) 3 [] = some ([.fin], lxE k s f, [0 + 48 ≤ (List.replicate 48 (0 : Int)).length ∧ 48 ≤ 48, 1 ≤ 1, (cutI (List.replicate 48 (0 : Int)) 0 48).length ≤ 800000 ∧ (cutI [(107 : Int)] 0 1).length ≤ 800000, 1 ≤ 1, (cutI [(107 : Int)] 0 1).length ≤ 800000, tB (decide ((k.length : Int) > 200)) false, tB (decide ((s.length : Int) > 200)) false, tB (decide ((f.length : Int) > 100)) false, 0 + k.length ≤ k.length ∧ k.length ≤ ck, 0 + s.length ≤ s.length ∧ s.length ≤ cs, 0 + f.length ≤ f.length ∧ f.length ≤ cf, n = 0 ∧ (cutI k 0 k.length).length ≤ 800000 ∧ (cutI s 0 s.length).length ≤ 800000, tB (decide (n < 0)) false, tB (decide (n > 1000)) false, 0 + k.length ≤ k.length ∧ k.length ≤ ck, 0 + s.length ≤ s.length ∧ s.length ≤ cs, 0 + f.length ≤ f.length ∧ f.length ≤ cf, n = 0 ∧ (cutI k 0 k.length).length ≤ 800000 ∧ (cutI s 0 s.length).length ≤ 800000 ∧ isBs (cutI k 0 k.length) ∧ isBs (cutI s 0 s.length)]) := by kernel_rfl
theorem lx_some (k s f : List Int) (n : Int) (ck cs cf : Nat) : runF tyT lxO (atH 1 8 (isB false) (atH 1 14 (isB false) (atH 1 19 (isB false) (atH 4 3 (isB false) (atH 4 7 (isB false) (atH 6 4 symH (atH 6 14 symH (atH 6 15 (isB true) noH)))))))) [] 3 [] [2] fLX (lxA k s f n ck cs cf) (lxP k s f) 3 [] = some ([.fin], lxE k s f, [0 + 48 ≤ (List.replicate 48 (0 : Int)).length ∧ 48 ≤ 48, 1 ≤ 1, (cutI (List.replicate 48 (0 : Int)) 0 48).length ≤ 800000 ∧ (cutI [(107 : Int)] 0 1).length ≤ 800000, 1 ≤ 1, (cutI [(107 : Int)] 0 1).length ≤ 800000, tB (decide ((k.length : Int) > 200)) false, tB (decide ((s.length : Int) > 200)) false, tB (decide ((f.length : Int) > 100)) false, 0 + k.length ≤ k.length ∧ k.length ≤ ck, 0 + s.length ≤ s.length ∧ s.length ≤ cs, 0 + f.length ≤ f.length ∧ f.length ≤ cf, 1 ≤ n ∧ n ≤ 1000 ∧ (cutI k 0 k.length).length ≤ 800000 ∧ (cutI s 0 s.length).length ≤ 800000 ∧ (cutI f 0 f.length).length ≤ 700000, tB (decide (n < 0)) false, tB (decide (n > 1000)) false, 0 + n.toNat ≤ widths [Seg.arr .u8 (eaO (exM (cutI k 0 k.length) (cutI s 0 s.length)) (cutI f 0 f.length) ((n.toNat + 47) / 48))], 0 + k.length ≤ k.length ∧ k.length ≤ ck, 0 + s.length ≤ s.length ∧ s.length ≤ cs, 0 + f.length ≤ f.length ∧ f.length ≤ cf, 1 ≤ n ∧ n ≤ 1000 ∧ (cutI k 0 k.length).length ≤ 800000 ∧ (cutI s 0 s.length).length ≤ 800000 ∧ (cutI f 0 f.length).length ≤ 700000 ∧ isBs (cutI k 0 k.length) ∧ isBs (cutI s 0 s.length) ∧ isBs (cutI f 0 f.length), 0 + n.toNat ≤ widths [Seg.arr .u8 (eaO (exM (cutI k 0 k.length) (cutI s 0 s.length)) (cutI f 0 f.length) ((n.toNat + 47) / 48))], tB ((strOf (List.take n.toNat (List.drop 0 (eaO (exM (cutI k 0 k.length) (cutI s 0 s.length)) (cutI f 0 f.length) ((n.toNat + 47) / 48))) ++ [])).toList == (strOf (List.take n.toNat (List.drop 0 (eaO (exM (cutI k 0 k.length) (cutI s 0 s.length)) (cutI f 0 f.length) ((n.toNat + 47) / 48))) ++ [])).toList) true]) := by kernel_rfl
theorem lx_ok [G384] (k s f : List Int) (n : Int) (ck cs cf : Nat) (lk : k.length ≤ ck) (ls : s.length ≤ cs) (lf : f.length ≤ cf) (bk : isBs k) (bs : isBs s) (bf : isBs f) : From Tryd.prog fLX (lxA k s f n ck cs cf) (lxP k s f) 3 [] [.fin] (lxE k s f) := by
  by_cases h1 : k.length ≤ 200
  · by_cases h2 : s.length ≤ 200
    · by_cases h3 : f.length ≤ 100
      · by_cases h4 : n < 0
        · exact From.run tyT_ok lxOb_ok mixed_ (lx_bad1 k s f n ck cs cf) ⟨⟨by decide, by decide⟩, by decide, ⟨by decide, by decide⟩, by decide, by decide, tB_ngt.2 (by omega), tB_ngt.2 (by omega), tB_ngt.2 (by omega), by omega, by omega, by omega, .inl h4, tB_lt.2 h4, trivial⟩
        · by_cases h5 : 1000 < n
          · exact From.run tyT_ok lxOb_ok mixed_ (lx_bad2 k s f n ck cs cf) ⟨⟨by decide, by decide⟩, by decide, ⟨by decide, by decide⟩, by decide, by decide, tB_ngt.2 (by omega), tB_ngt.2 (by omega), tB_ngt.2 (by omega), by omega, by omega, by omega, .inr h5, tB_nlt.2 (by omega), tB_gt.2 h5, trivial⟩
          · by_cases h6 : n = 0
            · have hrun := lx_nil k s f n ck cs cf
              simp only [cutI_all] at hrun
              refine From.run tyT_ok lxOz_ok mixed_ hrun ⟨⟨by decide, by decide⟩, by decide, ⟨by decide, by decide⟩, by decide, by decide, tB_ngt.2 (by omega), tB_ngt.2 (by omega), tB_ngt.2 (by omega), by omega, by omega, by omega, by omega, tB_nlt.2 (by omega), tB_ngt.2 (by omega), by omega, by omega, by omega, ⟨h6, by omega, by omega, bk, bs⟩, trivial⟩
            · have hrun := lx_some k s f n ck cs cf
              simp only [cutI_all, widths_o, eaO_len] at hrun
              refine From.run tyT_ok lxO_ok mixed_ hrun ⟨⟨by decide, by decide⟩, by decide, ⟨by decide, by decide⟩, by decide, by decide, tB_ngt.2 (by omega), tB_ngt.2 (by omega), tB_ngt.2 (by omega), by omega, by omega, by omega, by omega, tB_nlt.2 (by omega), tB_ngt.2 (by omega), by omega, by omega, by omega, by omega, ⟨by omega, by omega, by omega, by omega, by omega, bk, bs, bf⟩, by omega, ?_, trivial⟩
              exact tB_iff.2 (beq_self_eq_true _)
      · exact From.run tyT_ok lxOb_ok mixed_ (lx_long2 k s f n ck cs cf) ⟨⟨by decide, by decide⟩, by decide, ⟨by decide, by decide⟩, by decide, by decide, tB_ngt.2 (by omega), tB_ngt.2 (by omega), tB_gt.2 (by omega), ⟨by decide, by decide⟩, by decide, ⟨by decide, by decide⟩, by decide, by decide, trivial⟩
    · exact From.run tyT_ok lxOb_ok mixed_ (lx_long1 k s f n ck cs cf) ⟨⟨by decide, by decide⟩, by decide, ⟨by decide, by decide⟩, by decide, by decide, tB_ngt.2 (by omega), tB_gt.2 (by omega), ⟨by decide, by decide⟩, by decide, ⟨by decide, by decide⟩, by decide, by decide, trivial⟩
  · exact From.run tyT_ok lxOb_ok mixed_ (lx_long0 k s f n ck cs cf) ⟨⟨by decide, by decide⟩, by decide, ⟨by decide, by decide⟩, by decide, by decide, tB_gt.2 (by omega), ⟨by decide, by decide⟩, by decide, ⟨by decide, by decide⟩, by decide, by decide, trivial⟩
theorem lawMacExpands_fact [G384] (k s f : List Int) (n : Int) (pk ps pf : Option Addr) (ck cs cf : Nat) {W : World} (hgw : GWok W.heap.size [] W) (rk : RowAt W ⟨pk, ck⟩ .u8 k ∧ ∀ z ∈ k, (Lit.int .u8 z).wf = true) (rs : RowAt W ⟨ps, cs⟩ .u8 s ∧ ∀ z ∈ s, (Lit.int .u8 z).wf = true) (rf : RowAt W ⟨pf, cf⟩ .u8 f ∧ ∀ z ∈ f, (Lit.int .u8 z).wf = true) : Calls Tryd.prog 8 #[.agg #[.slice pk k.length ck, .slice ps s.length cs, .slice pf f.length cf, .int .i64 n]] W fun e w' => e = .returned (.bool true) ∧ Below W.heap.size W w' := by
  have hG := hr_rows [(⟨pk, ck⟩, .u8, k), (⟨ps, cs⟩, .u8, s), (⟨pf, cf⟩, .u8, f)] (fun x hx => by
    simp only [List.mem_cons, List.not_mem_nil, or_false] at hx
    rcases hx with rfl | rfl | rfl
    · exact rk.1
    · exact rs.1
    · exact rf.1) hgw
  have hR := lx_ok k s f n ck cs cf rk.1.1 rs.1.1 rf.1.1 (wf_isBs rk.2) (wf_isBs rs.2) (wf_isBs rf.2)
  have := law_reach Tryd.func8 hR (.inr rfl) (by kernel_rfl) (by kernel_rfl) (by kernel_rfl) hG
  have e2 : SV.conc (fun i => ([(⟨pk, ck⟩, IntKind.u8, k), (⟨ps, cs⟩, .u8, s), (⟨pf, cf⟩, .u8, f)].map (·.1)).getD i ⟨none, 0⟩) (.av (.agg [.s 0 0 k.length ck, .s 1 0 s.length cs, .s 2 0 f.length cf, .v (.int .i64 n)])) = .agg #[.slice pk k.length ck, .slice ps s.length cs, .slice pf f.length cf, .int .i64 n] := by
    simp only [SV.conc, AV.conc, segsVals, List.flatMap_cons, List.flatMap_nil, Seg.vals, Seg.conc]
    cases pk <;> cases ps <;> cases pf <;> simp [Addr.add]
  simp only [lxA, List.map_cons, List.map_nil] at this e2
  rw [e2] at this
  exact this
end
end Go.Proofs.YtmhmfmnjdbehcaaDoor.Am
/- Opening a struct of three slices of integers and an integer at a law's call. Conditions: none. -/
namespace Go.Proofs.YtmhmfmnjdbehcaaDoor
set_option linter.unusedVariables false
set_option linter.unusedSimpArgs false
open Go Go.ChangeShapes Go.WideShapes Go.ChangeAt Go.RowKit

/-- A struct of three slices and an integer that comes in. -/
theorem open_four {H : Type} {enc : TypeId × Value → H} {W : World} {base b0 : Nat} {spare : Nat → Bool} {held : Bool} {v : Value} {d : DataW H} {ps : List MemPlace} {t s e i : TypeId} {k j : IntKind} {f0 f1 f2 f3 : Field}
    (ht : Tryd.prog.underlying t = some (.struct #[f0, f1, f2, f3])) (t0 : f0.type = s ∧ f0.offset = 0) (t1 : f1.type = s ∧ f1.offset = 1) (t2 : f2.type = s ∧ f2.offset = 2) (t3 : f3.type = i ∧ f3.offset = 3) (hs : Tryd.prog.underlying s = some (.slice e)) (he : Tryd.prog.underlying e = some (.int k)) (hi : Tryd.prog.underlying i = some (.int j)) (hcs : Tryd.prog.cellsOf s = 1) (hci : Tryd.prog.cellsOf i = 1) (hct : Tryd.prog.cellsOf t = 4) (hce : Tryd.prog.cellsOf e = 1) (hts : Tryd.prog.cellTypes Tryd.prog.depth t = some [s, s, s, i])
    (hval : Value.okWide Tryd.prog W .any b0 t v) (h : DataW.Trod enc Tryd.prog W base spare held t v d ps) :
    ∃ a cap, ∃ zs : List Int, ∃ a' cap', ∃ zs' : List Int, ∃ a'' cap'', ∃ zs'' : List Int, ∃ n : Int, v = .agg #[.slice a zs.length cap, .slice a' zs'.length cap', .slice a'' zs''.length cap'', .int j n] ∧ (Am.RowAt W ⟨a, cap⟩ k zs ∧ ∀ z ∈ zs, (Lit.int k z).wf = true) ∧ (Am.RowAt W ⟨a', cap'⟩ k zs' ∧ ∀ z ∈ zs', (Lit.int k z).wf = true) ∧ (Am.RowAt W ⟨a'', cap''⟩ k zs'' ∧ ∀ z ∈ zs'', (Lit.int k z).wf = true) ∧ (Lit.int j n).wf = true := by
  obtain ⟨cs, rfl, hsz, ts, hts', _, hrow⟩ : ∃ cs, v = .agg cs ∧ cs.size = Tryd.prog.cellsOf t ∧ Row.okWide Tryd.prog W .any b0 t cs := by
    simpa [Value.okWide, ht] using hval
  rw [hts] at hts'
  injection hts' with hts'
  subst hts'
  rw [hct] at hsz
  obtain ⟨fuel, hf⟩ := h
  obtain ⟨xs, m, _, _, hl, hxs, hel⟩ := DataW.trod_struct ht hf
  obtain ⟨l⟩ := cs
  match l, hsz with
  | [u, w, x, y], _ =>
    have e0 := hel 0 f0 rfl
    have e1 := hel 1 f1 rfl
    have e2 := hel 2 f2 rfl
    have e3 := hel 3 f3 rfl
    rw [t0.1, t0.2, hcs] at e0
    rw [t1.1, t1.2, hcs] at e1
    rw [t2.1, t2.2, hcs] at e2
    rw [t3.1, t3.2, hci] at e3
    obtain ⟨_, h0, o0⟩ := hrow 0 u rfl
    obtain ⟨_, h1, o1⟩ := hrow 1 w rfl
    obtain ⟨_, h2, o2⟩ := hrow 2 x rfl
    simp at h0 h1 h2
    subst h0 h1 h2
    have hx : ∀ j, j < 4 → ∃ y, xs[j]? = some y := fun j hj => by
      have : j < xs.length := by rw [hxs]; exact hj
      exact ⟨_, List.getElem?_eq_getElem this⟩
    obtain ⟨y0, hy0⟩ := hx 0 (by omega)
    obtain ⟨y1, hy1⟩ := hx 1 (by omega)
    obtain ⟨y2, hy2⟩ := hx 2 (by omega)
    obtain ⟨y3, hy3⟩ := hx 3 (by omega)
    rw [hy0] at e0
    rw [hy1] at e1
    rw [hy2] at e2
    rw [hy3] at e3
    obtain ⟨a, cap, zs, rfl, r0, w0⟩ := open_slc hs he hce o0 e0
    obtain ⟨a', cap', zs', rfl, r1, w1⟩ := open_slc hs he hce o1 e1
    obtain ⟨a'', cap'', zs'', rfl, r2, w2⟩ := open_slc hs he hce o2 e2
    obtain ⟨n, hn, _, w3⟩ := DataW.trod_int hi e3
    have hn' : [y] = [Value.int j n] := hn
    injection hn' with hn' _
    subst hn'
    exact ⟨a, cap, zs, a', cap', zs', a'', cap'', zs'', n, rfl, ⟨r0, w0⟩, ⟨r1, w1⟩, ⟨r2, w2⟩, w3⟩
end Go.Proofs.YtmhmfmnjdbehcaaDoor
/- What a listed table's cells are, at a law's call. Conditions: none. -/
namespace Go.Proofs.YtmhmfmnjdbehcaaDoor
set_option linter.unusedVariables false
set_option linter.unusedSimpArgs false
open Go
theorem laid_reads {P : Program} {w : World} : ∀ {l : List (String × DataW Unit)} {ps : List MemPlace}, DataW.LaidVars P w l ps → ∀ n d, (n, d) ∈ l →
    ∃ g t cs fuel p, P.globalNamed n = some g ∧ (P.globals[g]?).map (·.type) = some t ∧ w.var? P n = some cs ∧ DataW.trod (fun _ => ()) P w 0 (fun _ => true) false fuel t cs.toList = some (d, p)
  | [], _, _, _, _, hm => by cases hm
  | (n', d') :: r, ps, h, n, d, hm => by
    obtain ⟨g, t, cs, fuel, p, q, h1, h2, h3, h4, h5, _⟩ := h
    rcases List.mem_cons.1 hm with e | e
    · cases e
      exact ⟨g, t, cs, fuel, p, h1, h2, h3, h4⟩
    · exact laid_reads h5 n d e
/-- A listed table of integers stands in its block. -/
theorem laid_cells {W : World} {l : List (String × DataW Unit)} (h : laidMet Tryd.prog l W) {name : String} {g : Nat} {t e : TypeId} {n : Nat} {k : IntKind} {zs : List Int} (hm : (name, Lib.tabData k zs) ∈ l)
    (hg : Tryd.prog.globalNamed name = some g) (hty : (Tryd.prog.globals[g]?).map (·.type) = some t) (ht : Tryd.prog.underlying t = some (.array n e)) (he : Tryd.prog.underlying e = some (.int k)) (hce : Tryd.prog.cellsOf e = 1) (hct : Tryd.prog.cellsOf t = n) :
    g < W.heap.size ∧ g ∉ ([] : List Nat) ∧ ∃ cs ty mk, W.heap[g]? = some (.cells cs ty mk) ∧ cs.toList = zs.map (Value.int k) := by
  obtain ⟨_, hv, _⟩ := h
  obtain ⟨g', t', cs, fuel, p, h1, h2, h3, h4⟩ := laid_reads hv _ _ hm
  obtain rfl := Option.some.inj (hg.symm.trans h1)
  obtain rfl := Option.some.inj (hty.symm.trans h2)
  have hcs := Lib.cells_of_tab ht he hce hct h4
  unfold World.var? at h3
  rw [hg, Option.bind_some] at h3
  split at h3
  · rename_i cs' ty mk hh
    obtain rfl := Option.some.inj h3
    exact ⟨(Array.getElem?_eq_some_iff.1 hh).1, List.not_mem_nil, cs', ty, mk, hh, hcs⟩
  · cases h3
end Go.Proofs.YtmhmfmnjdbehcaaDoor
