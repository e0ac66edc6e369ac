/- Law 03's Expands. Conditions: none. -/
import Derived.Test.YtmhmfmnjdbehcaaDoorZ9
import Derived.Test.YtmhmfmnjdbehcaaDoorRows
import Derived.LaidLaws
import Derived.Lib.LaidTab
import Derived.Test.YtmhmfmnjdbehcaaDoorZ1
set_option linter.unusedSectionVars false
namespace Go.Proofs.YtmhmfmnjdbehcaaDoor.Am
set_option linter.unusedVariables false
set_option linter.unusedSimpArgs false
open Go Go.RowKit
set_option linter.unusedSectionVars false
section
variable [GT] [GRnd]
noncomputable abbrev fLX : Func := Tryd.f8
noncomputable def lxOb : List (Nat × Ent) := [(27, eAwake3), (28, entB [.sl .u8, .sl .u8, .sl .u8, .av] xeFb), (29, entB [.sl .u8, .sl .u8, .sl .u8, .av] rxFz)]
theorem lxOb_ok [G384] : OOK Tryd.prog lxOb := ook_of (l := [(27, eAwake3), (28, entB [.sl .u8, .sl .u8, .sl .u8, .av] xeFb), (29, entB [.sl .u8, .sl .u8, .sl .u8, .av] rxFz)]) ⟨awake3_ent, expand_entb _, rexpand_entz _, trivial⟩
noncomputable def lxOz : List (Nat × Ent) := [(27, eAwake3), (28, entB [.sl .u8, .sl .u8, .sl .u8, .av] xeFz), (29, entB [.sl .u8, .sl .u8, .sl .u8, .av] rxFz)]
theorem lxOz_ok [G384] : OOK Tryd.prog lxOz := ook_of (l := [(27, eAwake3), (28, entB [.sl .u8, .sl .u8, .sl .u8, .av] xeFz), (29, entB [.sl .u8, .sl .u8, .sl .u8, .av] rxFz)]) ⟨awake3_ent, expand_entz _, rexpand_entz _, trivial⟩
noncomputable def lxO : List (Nat × Ent) := [(27, eAwake3), (28, entB [.sl .u8, .sl .u8, .sl .u8, .av] xeF), (29, entB [.sl .u8, .sl .u8, .sl .u8, .av] rxF)]
theorem lxO_ok [G384] : OOK Tryd.prog lxO := ook_of (l := [(27, eAwake3), (28, entB [.sl .u8, .sl .u8, .sl .u8, .av] xeF), (29, entB [.sl .u8, .sl .u8, .sl .u8, .av] rxF)]) ⟨awake3_ent, expand_ent _, rexpand_ent _, trivial⟩
def lxA (k s f : List Int) (n : Int) (ck cs cf : Nat) : List SV := [.av (.agg [.s 0 0 k.length ck, .s 1 0 s.length cs, .s 2 0 f.length cf, .v (.int .i64 n)])]
def lxP (k s f : List Int) : List (Nat × Blk) := [(0, ⟨2, 0, [.arr .u8 k]⟩), (1, ⟨2, 0, [.arr .u8 s]⟩), (2, ⟨2, 0, [.arr .u8 f]⟩)]
def lxE (k s f : List Int) : St := { tm := tmL 70 [(2, ofV (.bool true))], hp := lxP k s f, nx := 3, gl := [] }
theorem lx_long0 (k s f : List Int) (n : Int) (ck cs cf : Nat) : runF tyT lxOb (atH 1 8 (isB true) noH) [] 3 [] [2] fLX (lxA k s f n ck cs cf) (lxP k s f) 3 [] = some ([.fin], lxE k s f, [0 + 48 ≤ (List.replicate 48 (0 : Int)).length ∧ 48 ≤ 48, 1 ≤ 1, (cutI (List.replicate 48 (0 : Int)) 0 48).length ≤ 800000 ∧ (cutI [(107 : Int)] 0 1).length ≤ 800000, 1 ≤ 1, (cutI [(107 : Int)] 0 1).length ≤ 800000, tB (decide ((k.length : Int) > 200)) true, 0 + 48 ≤ (List.replicate 48 (0 : Int)).length ∧ 48 ≤ 48, 1 ≤ 1, (cutI (List.replicate 48 (0 : Int)) 0 48).length ≤ 800000 ∧ (cutI [(107 : Int)] 0 1).length ≤ 800000, 1 ≤ 1, (cutI [(107 : Int)] 0 1).length ≤ 800000]) := by kernel_rfl
theorem lx_long1 (k s f : List Int) (n : Int) (ck cs cf : Nat) : runF tyT lxOb (atH 1 8 (isB false) (atH 1 14 (isB true) noH)) [] 3 [] [2] fLX (lxA k s f n ck cs cf) (lxP k s f) 3 [] = some ([.fin], lxE k s f, [0 + 48 ≤ (List.replicate 48 (0 : Int)).length ∧ 48 ≤ 48, 1 ≤ 1, (cutI (List.replicate 48 (0 : Int)) 0 48).length ≤ 800000 ∧ (cutI [(107 : Int)] 0 1).length ≤ 800000, 1 ≤ 1, (cutI [(107 : Int)] 0 1).length ≤ 800000, tB (decide ((k.length : Int) > 200)) false, tB (decide ((s.length : Int) > 200)) true, 0 + 48 ≤ (List.replicate 48 (0 : Int)).length ∧ 48 ≤ 48, 1 ≤ 1, (cutI (List.replicate 48 (0 : Int)) 0 48).length ≤ 800000 ∧ (cutI [(107 : Int)] 0 1).length ≤ 800000, 1 ≤ 1, (cutI [(107 : Int)] 0 1).length ≤ 800000]) := by kernel_rfl
theorem lx_long2 (k s f : List Int) (n : Int) (ck cs cf : Nat) : runF tyT lxOb (atH 1 8 (isB false) (atH 1 14 (isB false) (atH 1 19 (isB true) noH))) [] 3 [] [2] fLX (lxA k s f n ck cs cf) (lxP k s f) 3 [] = some ([.fin], lxE k s f, [0 + 48 ≤ (List.replicate 48 (0 : Int)).length ∧ 48 ≤ 48, 1 ≤ 1, (cutI (List.replicate 48 (0 : Int)) 0 48).length ≤ 800000 ∧ (cutI [(107 : Int)] 0 1).length ≤ 800000, 1 ≤ 1, (cutI [(107 : Int)] 0 1).length ≤ 800000, tB (decide ((k.length : Int) > 200)) false, tB (decide ((s.length : Int) > 200)) false, tB (decide ((f.length : Int) > 100)) true, 0 + 48 ≤ (List.replicate 48 (0 : Int)).length ∧ 48 ≤ 48, 1 ≤ 1, (cutI (List.replicate 48 (0 : Int)) 0 48).length ≤ 800000 ∧ (cutI [(107 : Int)] 0 1).length ≤ 800000, 1 ≤ 1, (cutI [(107 : Int)] 0 1).length ≤ 800000]) := by kernel_rfl
theorem lx_bad1 (k s f : List Int) (n : Int) (ck cs cf : Nat) : runF tyT lxOb (atH 1 8 (isB false) (atH 1 14 (isB false) (atH 1 19 (isB false) (atH 4 3 (isB true) noH)))) [] 3 [] [2] fLX (lxA k s f n ck cs cf) (lxP k s f) 3 [] = some ([.fin], lxE k s f, [0 + 48 ≤ (List.replicate 48 (0 : Int)).length ∧ 48 ≤ 48, 1 ≤ 1, (cutI (List.replicate 48 (0 : Int)) 0 48).length ≤ 800000 ∧ (cutI [(107 : Int)] 0 1).length ≤ 800000, 1 ≤ 1, (cutI [(107 : Int)] 0 1).length ≤ 800000, tB (decide ((k.length : Int) > 200)) false, tB (decide ((s.length : Int) > 200)) false, tB (decide ((f.length : Int) > 100)) false, 0 + k.length ≤ k.length ∧ k.length ≤ ck, 0 + s.length ≤ s.length ∧ s.length ≤ cs, 0 + f.length ≤ f.length ∧ f.length ≤ cf, n < 0 ∨ 1000 < n, tB (decide (n < 0)) true]) := by kernel_rfl
theorem lx_bad2 (k s f : List Int) (n : Int) (ck cs cf : Nat) : runF tyT lxOb (atH 1 8 (isB false) (atH 1 14 (isB false) (atH 1 19 (isB false) (atH 4 3 (isB false) (atH 4 7 (isB true) noH))))) [] 3 [] [2] fLX (lxA k s f n ck cs cf) (lxP k s f) 3 [] = some ([.fin], lxE k s f, [0 + 48 ≤ (List.replicate 48 (0 : Int)).length ∧ 48 ≤ 48, 1 ≤ 1, (cutI (List.replicate 48 (0 : Int)) 0 48).length ≤ 800000 ∧ (cutI [(107 : Int)] 0 1).length ≤ 800000, 1 ≤ 1, (cutI [(107 : Int)] 0 1).length ≤ 800000, tB (decide ((k.length : Int) > 200)) false, tB (decide ((s.length : Int) > 200)) false, tB (decide ((f.length : Int) > 100)) false, 0 + k.length ≤ k.length ∧ k.length ≤ ck, 0 + s.length ≤ s.length ∧ s.length ≤ cs, 0 + f.length ≤ f.length ∧ f.length ≤ cf, n < 0 ∨ 1000 < n, tB (decide (n < 0)) false, tB (decide (n > 1000)) true]) := by kernel_rfl
theorem lx_nil (k s f : List Int) (n : Int) (ck cs cf : Nat) : runF tyT lxOz (atH 1 8 (isB false) (atH 1 14 (isB false) (atH 1 19 (isB false) (atH 4 3 (isB false) (atH 4 7 (isB false) noH))))) [] 3 [] [2] fLX (lxA k s f n ck cs cf) (lxP k s f) 3 [] = some ([.fin], lxE k s f, [0 + 48 ≤ (List.replicate 48 (0 : Int)).length ∧ 48 ≤ 48, 1 ≤ 1, (cutI (List.replicate 48 (0 : Int)) 0 48).length ≤ 800000 ∧ (cutI [(107 : Int)] 0 1).length ≤ 800000, 1 ≤ 1, (cutI [(107 : Int)] 0 1).length ≤ 800000, tB (decide ((k.length : Int) > 200)) false, tB (decide ((s.length : Int) > 200)) false, tB (decide ((f.length : Int) > 100)) false, 0 + k.length ≤ k.length ∧ k.length ≤ ck, 0 + s.length ≤ s.length ∧ s.length ≤ cs, 0 + f.length ≤ f.length ∧ f.length ≤ cf, n = 0 ∧ (cutI k 0 k.length).length ≤ 800000 ∧ (cutI s 0 s.length).length ≤ 800000, tB (decide (n < 0)) false, tB (decide (n > 1000)) false, 0 + k.length ≤ k.length ∧ k.length ≤ ck, 0 + s.length ≤ s.length ∧ s.length ≤ cs, 0 + f.length ≤ f.length ∧ f.length ≤ cf, n = 0 ∧ (cutI k 0 k.length).length ≤ 800000 ∧ (cutI s 0 s.length).length ≤ 800000 ∧ isBs (cutI k 0 k.length) ∧ isBs (cutI s 0 s.length)]) := by kernel_rfl
theorem lx_some (k s f : List Int) (n : Int) (ck cs cf : Nat) : runF tyT lxO (atH 1 8 (isB false) (atH 1 14 (isB false) (atH 1 19 (isB false) (atH 4 3 (isB false) (atH 4 7 (isB false) (atH 6 4 symH (atH 6 14 symH (atH 6 15 (isB true) noH)))))))) [] 3 [] [2] fLX (lxA k s f n ck cs cf) (lxP k s f) 3 [] = some ([.fin], lxE k s f, [0 + 48 ≤ (List.replicate 48 (0 : Int)).length ∧ 48 ≤ 48, 1 ≤ 1, (cutI (List.replicate 48 (0 : Int)) 0 48).length ≤ 800000 ∧ (cutI [(107 : Int)] 0 1).length ≤ 800000, 1 ≤ 1, (cutI [(107 : Int)] 0 1).length ≤ 800000, tB (decide ((k.length : Int) > 200)) false, tB (decide ((s.length : Int) > 200)) false, tB (decide ((f.length : Int) > 100)) false, 0 + k.length ≤ k.length ∧ k.length ≤ ck, 0 + s.length ≤ s.length ∧ s.length ≤ cs, 0 + f.length ≤ f.length ∧ f.length ≤ cf, 1 ≤ n ∧ n ≤ 1000 ∧ (cutI k 0 k.length).length ≤ 800000 ∧ (cutI s 0 s.length).length ≤ 800000 ∧ (cutI f 0 f.length).length ≤ 700000, tB (decide (n < 0)) false, tB (decide (n > 1000)) false, 0 + n.toNat ≤ widths [Seg.arr .u8 (eaO (exM (cutI k 0 k.length) (cutI s 0 s.length)) (cutI f 0 f.length) ((n.toNat + 47) / 48))], 0 + k.length ≤ k.length ∧ k.length ≤ ck, 0 + s.length ≤ s.length ∧ s.length ≤ cs, 0 + f.length ≤ f.length ∧ f.length ≤ cf, 1 ≤ n ∧ n ≤ 1000 ∧ (cutI k 0 k.length).length ≤ 800000 ∧ (cutI s 0 s.length).length ≤ 800000 ∧ (cutI f 0 f.length).length ≤ 700000 ∧ isBs (cutI k 0 k.length) ∧ isBs (cutI s 0 s.length) ∧ isBs (cutI f 0 f.length), 0 + n.toNat ≤ widths [Seg.arr .u8 (eaO (exM (cutI k 0 k.length) (cutI s 0 s.length)) (cutI f 0 f.length) ((n.toNat + 47) / 48))], tB ((strOf (List.take n.toNat (List.drop 0 (eaO (exM (cutI k 0 k.length) (cutI s 0 s.length)) (cutI f 0 f.length) ((n.toNat + 47) / 48))) ++ [])).toList == (strOf (List.take n.toNat (List.drop 0 (eaO (exM (cutI k 0 k.length) (cutI s 0 s.length)) (cutI f 0 f.length) ((n.toNat + 47) / 48))) ++ [])).toList) true]) := by kernel_rfl
theorem lx_ok [G384] (k s f : List Int) (n : Int) (ck cs cf : Nat) (lk : k.length ≤ ck) (ls : s.length ≤ cs) (lf : f.length ≤ cf) (bk : isBs k) (bs : isBs s) (bf : isBs f) : From Tryd.prog fLX (lxA k s f n ck cs cf) (lxP k s f) 3 [] [.fin] (lxE k s f) := by
  by_cases h1 : k.length ≤ 200
  · by_cases h2 : s.length ≤ 200
    · by_cases h3 : f.length ≤ 100
      · by_cases h4 : n < 0
        · exact From.run tyT_ok lxOb_ok mixed_ (lx_bad1 k s f n ck cs cf) ⟨⟨by decide, by decide⟩, by decide, ⟨by decide, by decide⟩, by decide, by decide, tB_ngt.2 (by omega), tB_ngt.2 (by omega), tB_ngt.2 (by omega), by omega, by omega, by omega, .inl h4, tB_lt.2 h4, trivial⟩
        · by_cases h5 : 1000 < n
          · exact From.run tyT_ok lxOb_ok mixed_ (lx_bad2 k s f n ck cs cf) ⟨⟨by decide, by decide⟩, by decide, ⟨by decide, by decide⟩, by decide, by decide, tB_ngt.2 (by omega), tB_ngt.2 (by omega), tB_ngt.2 (by omega), by omega, by omega, by omega, .inr h5, tB_nlt.2 (by omega), tB_gt.2 h5, trivial⟩
          · by_cases h6 : n = 0
            · have hrun := lx_nil k s f n ck cs cf
              simp only [cutI_all] at hrun
              refine From.run tyT_ok lxOz_ok mixed_ hrun ⟨⟨by decide, by decide⟩, by decide, ⟨by decide, by decide⟩, by decide, by decide, tB_ngt.2 (by omega), tB_ngt.2 (by omega), tB_ngt.2 (by omega), by omega, by omega, by omega, by omega, tB_nlt.2 (by omega), tB_ngt.2 (by omega), by omega, by omega, by omega, ⟨h6, by omega, by omega, bk, bs⟩, trivial⟩
            · have hrun := lx_some k s f n ck cs cf
              simp only [cutI_all, widths_o, eaO_len] at hrun
              refine From.run tyT_ok lxO_ok mixed_ hrun ⟨⟨by decide, by decide⟩, by decide, ⟨by decide, by decide⟩, by decide, by decide, tB_ngt.2 (by omega), tB_ngt.2 (by omega), tB_ngt.2 (by omega), by omega, by omega, by omega, by omega, tB_nlt.2 (by omega), tB_ngt.2 (by omega), by omega, by omega, by omega, by omega, ⟨by omega, by omega, by omega, by omega, by omega, bk, bs, bf⟩, by omega, ?_, trivial⟩
              exact tB_iff.2 (beq_self_eq_true _)
      · exact From.run tyT_ok lxOb_ok mixed_ (lx_long2 k s f n ck cs cf) ⟨⟨by decide, by decide⟩, by decide, ⟨by decide, by decide⟩, by decide, by decide, tB_ngt.2 (by omega), tB_ngt.2 (by omega), tB_gt.2 (by omega), ⟨by decide, by decide⟩, by decide, ⟨by decide, by decide⟩, by decide, by decide, trivial⟩
    · exact From.run tyT_ok lxOb_ok mixed_ (lx_long1 k s f n ck cs cf) ⟨⟨by decide, by decide⟩, by decide, ⟨by decide, by decide⟩, by decide, by decide, tB_ngt.2 (by omega), tB_gt.2 (by omega), ⟨by decide, by decide⟩, by decide, ⟨by decide, by decide⟩, by decide, by decide, trivial⟩
  · exact From.run tyT_ok lxOb_ok mixed_ (lx_long0 k s f n ck cs cf) ⟨⟨by decide, by decide⟩, by decide, ⟨by decide, by decide⟩, by decide, by decide, tB_gt.2 (by omega), ⟨by decide, by decide⟩, by decide, ⟨by decide, by decide⟩, by decide, by decide, trivial⟩
theorem lawMacExpands_fact [G384] (k s f : List Int) (n : Int) (pk ps pf : Option Addr) (ck cs cf : Nat) {W : World} (hgw : GWok W.heap.size [] W) (rk : RowAt W ⟨pk, ck⟩ .u8 k ∧ ∀ z ∈ k, (Lit.int .u8 z).wf = true) (rs : RowAt W ⟨ps, cs⟩ .u8 s ∧ ∀ z ∈ s, (Lit.int .u8 z).wf = true) (rf : RowAt W ⟨pf, cf⟩ .u8 f ∧ ∀ z ∈ f, (Lit.int .u8 z).wf = true) : Calls Tryd.prog 8 #[.agg #[.slice pk k.length ck, .slice ps s.length cs, .slice pf f.length cf, .int .i64 n]] W fun e w' => e = .returned (.bool true) ∧ Below W.heap.size W w' := by
  have hG := hr_rows [(⟨pk, ck⟩, .u8, k), (⟨ps, cs⟩, .u8, s), (⟨pf, cf⟩, .u8, f)] (fun x hx => by
    simp only [List.mem_cons, List.not_mem_nil, or_false] at hx
    rcases hx with rfl | rfl | rfl
    · exact rk.1
    · exact rs.1
    · exact rf.1) hgw
  have hR := lx_ok k s f n ck cs cf rk.1.1 rs.1.1 rf.1.1 (wf_isBs rk.2) (wf_isBs rs.2) (wf_isBs rf.2)
  have := law_reach Tryd.func8 hR (.inr rfl) (by kernel_rfl) (by kernel_rfl) (by kernel_rfl) hG
  have e2 : SV.conc (fun i => ([(⟨pk, ck⟩, IntKind.u8, k), (⟨ps, cs⟩, .u8, s), (⟨pf, cf⟩, .u8, f)].map (·.1)).getD i ⟨none, 0⟩) (.av (.agg [.s 0 0 k.length ck, .s 1 0 s.length cs, .s 2 0 f.length cf, .v (.int .i64 n)])) = .agg #[.slice pk k.length ck, .slice ps s.length cs, .slice pf f.length cf, .int .i64 n] := by
    simp only [SV.conc, AV.conc, segsVals, List.flatMap_cons, List.flatMap_nil, Seg.vals, Seg.conc]
    cases pk <;> cases ps <;> cases pf <;> simp [Addr.add]
  simp only [lxA, List.map_cons, List.map_nil] at this e2
  rw [e2] at this
  exact this
end
end Go.Proofs.YtmhmfmnjdbehcaaDoor.Am
/- The chain of a key out of a password. Conditions: none. -/
namespace Go.Proofs.YtmhmfmnjdbehcaaDoor.Am
set_option linter.unusedVariables false
set_option linter.unusedSimpArgs false
open Go Go.RowKit
set_option linter.unusedSectionVars false
section
variable [GT] [GRnd]
noncomputable abbrev fCn : Func := Tryd.f44
noncomputable def cnO : List (Nat × Ent) := [(30, eOr (entB [.sl .u8, .rs [.sl .u8]] msF1) (entB [.sl .u8, .rs [.sl .u8, .sl .u8]] msF2))]
theorem cnO_ok [G384] : OOK Tryd.prog cnO := ook_of (l := [(30, eOr (entB [.sl .u8, .rs [.sl .u8]] msF1) (entB [.sl .u8, .rs [.sl .u8, .sl .u8]] msF2))]) ⟨eOr_ok (msum_ent1 _) (msum_ent2 _), trivial⟩
def cnB (p s : List Int) (r i : Int) : List CB := [.sl .u8 p, .sl .u8 s, .av (.one (.v (.int .i64 r))), .av (.one (.v (.int .i64 i)))]
def cnH (p u o : List Int) : List (Nat × Blk) := [(0, ⟨2, 0, [.arr .u8 p]⟩), (1, ⟨0, 36, [.arr .u8 u]⟩), (2, ⟨0, 5, [.arr .u8 o]⟩)]
def cnS (p u o : List Int) (r k : Int) : St := { tm := tmL 58 [(0, .av (.one (.r 0 0 p.length 0))), (9, .av (.one (.s 1 0 48 48))), (10, .av (.one (.s 2 0 48 48))), (30, ofV (.int .i64 r)), (31, ofV (.int .i64 k))], hp := cnH p u o, nx := 3, gl := [] }
def cnI (p u o : List Int) (r k j : Int) : St := { tm := tmL 58 [(0, .av (.one (.r 0 0 p.length 0))), (9, .av (.one (.s 1 0 48 48))), (10, .av (.one (.s 2 0 48 48))), (30, ofV (.int .i64 r)), (31, ofV (.int .i64 k)), (41, ofV (.int .i64 48)), (42, ofV (.int .i64 j))], hp := cnH p u o, nx := 3, gl := [] }
def cnE (o : List Int) : St := { tm := tmL 58 [(8, .av (.one (.s 0 0 48 48)))], hp := [(0, ⟨0, 5, [.arr .u8 o]⟩)], nx := 1, gl := [] }
theorem cn_start (κ : Nat → Value) (p s : List Int) (r i : Int) : runF tyT cnO noH [] 0 [0, 4, 5] [0, 9, 10, 30, 31] fCn (bA (cnB p s r i) 0 0) (bH κ (cnB p s r i) 0 0) 2 [] = some (toAt fCn 4 [], cnS p (macL (cutI p 0 p.length) ((cutI s 0 s.length) ++ cutI [IntKind.wrap .u8 (ishr .i64 i 24), IntKind.wrap .u8 (ishr .i64 i 16), IntKind.wrap .u8 (ishr .i64 i 8), IntKind.wrap .u8 i] 0 4)) (List.replicate 48 0) r 0, [0 + p.length ≤ p.length, 0 + s.length ≤ s.length, 0 + 4 ≤ [IntKind.wrap .u8 (ishr .i64 i 24), IntKind.wrap .u8 (ishr .i64 i 16), IntKind.wrap .u8 (ishr .i64 i 8), IntKind.wrap .u8 i].length ∧ 4 ≤ 4, (cutI p 0 p.length).length ≤ 800000 ∧ (cutI s 0 s.length).length + (cutI [IntKind.wrap .u8 (ishr .i64 i 24), IntKind.wrap .u8 (ishr .i64 i 16), IntKind.wrap .u8 (ishr .i64 i 8), IntKind.wrap .u8 i] 0 4).length ≤ 800000]) := by kernel_rfl
theorem cn_first (p u o : List Int) (r : Int) (k_ : Nat) : runN tyT cnO (atH 4 0 (isB true) noH) [] 2000 0 [0, 1, 2] [0, 9, 10, 30, 31, 41, 42] (inAt fCn 4 [] k_) (cnS p u o r 0) = some (toAt fCn 9 [k_], cnI p u o r 0 0, [tB (decide (0 < r)) true]) := by kernel_rfl
theorem cn_round (p u o : List Int) (r : Int) (k k_ : Nat) : runN tyT cnO (atH 4 0 (isB true) (atH 6 1 (isB true) noH)) [] 2000 0 [0, 4, 2] [0, 9, 10, 30, 31, 41, 42] (inAt fCn 4 [] k_) (cnS p u o r k) = some (toAt fCn 9 [k_], cnI p (macL (cutI p 0 p.length) (cutI u 0 48)) o r k 0, [tB (decide ((k : Int) < r)) true, tB (decide ((k : Int) > 0)) true, 0 + p.length ≤ p.length, 0 + 48 ≤ u.length ∧ 48 ≤ 48, (cutI p 0 p.length).length ≤ 800000 ∧ (cutI u 0 48).length ≤ 800000]) := by kernel_rfl
theorem cn_end (p u o : List Int) (r : Int) (k k_ : Nat) : runN tyT cnO (atH 4 0 (isB false) noH) [] 2000 0 [2] [8] (inAt fCn 4 [] k_) (cnS p u o r k) = some ([.fin], cnE o, [tB (decide ((k : Int) < r)) false]) := by kernel_rfl
theorem cn_in (p u o : List Int) (r : Int) (k j q_ k_ : Nat) : runN tyT cnO (atH 9 0 (isB true) (atH 11 2 symH (atH 11 3 symH (atH 11 6 symH (atH 11 7 symH (atH 11 9 symH (atH 11 10 symH (atH 12 0 (isI .i64 ((j + 1 : Nat) : Int)) noH)))))))) [] 2000 0 [0, 1, 2] [0, 9, 10, 30, 31, 41, 42] (inAt fCn 9 [q_] k_) (cnI p u o r k j) = some (hdAt fCn 9 [q_] k_, cnI p u (o.set j (ixor .u8 (o.getD j 0) (u.getD j 0))) r k ((j + 1 : Nat) : Int), [tB (decide ((j : Int) < 48)) true, 48 ≤ widths [Seg.arr .u8 o], 0 ≤ (j : Int) ∧ (j : Int).toNat ≤ 48 - 1, 1 ≤ 48, j < o.length, 48 ≤ widths [Seg.arr .u8 u], 0 ≤ (j : Int) ∧ (j : Int).toNat ≤ 48 - 1, 1 ≤ 48, j < u.length, 48 ≤ widths [Seg.arr .u8 o], 0 ≤ (j : Int) ∧ (j : Int).toNat ≤ 48 - 1, 1 ≤ 48, j < o.length, tI .i64 (IntKind.wrap .i64 ((j : Int) + 1)) ((j + 1 : Nat) : Int)]) := by kernel_rfl
theorem cn_out (p u o : List Int) (r : Int) (k j q_ k_ : Nat) : runN tyT cnO (atH 9 0 (isB false) (atH 13 0 (isI .i64 ((k + 1 : Nat) : Int)) noH)) [] 2000 0 [0, 1, 2] [0, 9, 10, 30, 31] (inAt fCn 9 [q_] k_) (cnI p u o r k j) = some (hdAt fCn 4 [] q_, cnS p u o r ((k + 1 : Nat) : Int), [tB (decide ((j : Int) < 48)) false, tI .i64 (IntKind.wrap .i64 ((k : Int) + 1)) ((k + 1 : Nat) : Int)]) := by kernel_rfl
def xI (f u : Nat → Int) (i j : Nat) : Int := if j < i then ixor .u8 (f j) (u j) else f j
theorem xI_succ (f u : Nat → Int) (i : Nat) : setF (xI f u i) i (ixor .u8 (xI f u i i) (u i)) = xI f u (i + 1) := by
  funext j
  rw [setF_eq]
  unfold xI
  by_cases h : j = i
  · subst h
    rw [if_pos rfl, if_neg (Nat.lt_irrefl j), if_pos (Nat.lt_succ_self j)]
  · rw [if_neg h]
    by_cases h2 : j < i
    · rw [if_pos h2, if_pos (by omega)]
    · rw [if_neg h2, if_neg (by omega)]
/-- Two rows of 48, byte by byte. -/
def xorL (o u : List Int) : List Int := keyL 48 (xI (g2 o) (g2 u) 48)
theorem xorL_len (o u : List Int) : (xorL o u).length = 48 := keyL_len _ _
theorem cn_inner [G384] (p u o : List Int) (hu : u.length = 48) (r : Int) (k q_ : Nat) (hk : k ≤ 100000) : ∀ (m i : Nat), i + m = 48 → Reaches Tryd.prog 0 (hdAt fCn 9 [q_] (m + 1)) (cnI p u (keyL 48 (xI (g2 o) (g2 u) i)) r k i) (hdAt fCn 4 [] q_) (cnS p u (xorL o u) r ((k + 1 : Nat) : Int))
  | 0, i, h => by
    obtain rfl : i = 48 := by omega
    refine Reaches.oneK (Reaches.runK tyT_ok cnO_ok mixed_ (cn_out p u (keyL 48 (xI (g2 o) (g2 u) 48)) r k 48 q_ 0) ?_)
    simp only [allP_cons, allP_nil, and_true, tB_nlt, tI_iff]
    rw [w64 (by omega) (by omega)]
    omega
  | m + 1, i, h => by
    have hrun := cn_in p u (keyL 48 (xI (g2 o) (g2 u) i)) r k i q_ (m + 1)
    have eu : u.getD i 0 = g2 u i := rfl
    rw [keyL_get 48 _ i (by omega), eu, keyL_set, xI_succ] at hrun
    refine (Reaches.oneK (Reaches.runK tyT_ok cnO_ok mixed_ hrun ?_)).trans (cn_inner p u o hu r k q_ hk m (i + 1) (by omega))
    have e5 := w64 (z := ((i : Nat) : Int) + 1) (by omega) (by omega)
    simp only [allP_cons, allP_nil, and_true, true_and, tB_lt, tI_iff, widths_o, keyL_len, hu]
    omega
theorem cn_loop [G384] (p u o : List Int) (hu : u.length = 48) (ho : o.length = 48) (r : Int) (k q_ : Nat) (hk : k ≤ 100000) : Reaches Tryd.prog 0 (toAt fCn 9 [q_]) (cnI p u o r k 0) (hdAt fCn 4 [] q_) (cnS p u (xorL o u) r ((k + 1 : Nat) : Int)) := by
  have h := cn_inner p u o hu r k q_ hk 48 0 (by omega)
  have e : keyL 48 (xI (g2 o) (g2 u) 0) = o := by
    have e1 : xI (g2 o) (g2 u) 0 = g2 o := by
      funext j
      unfold xI
      rw [if_neg (by omega)]
    rw [e1, keyL_g2 ho]
  rw [e] at h
  exact Reaches.roundsK 49 h
/-- The sums of a chain, and what they make together. -/
def chU (p b : List Int) : Nat → List Int
  | 0 => macL p b
  | k + 1 => macL p (chU p b k)
def chO (p b : List Int) : Nat → List Int
  | 0 => List.replicate 48 0
  | k + 1 => xorL (chO p b k) (chU p b k)
theorem chU_len (p b : List Int) : ∀ k, (chU p b k).length = 48
  | 0 => macL_len _ _
  | _ + 1 => macL_len _ _
theorem chO_len (p b : List Int) : ∀ k, (chO p b k).length = 48
  | 0 => rfl
  | _ + 1 => xorL_len _ _
theorem cn_rounds [G384] (p b : List Int) (hp : p.length ≤ 800000) (r : Nat) (hr : r ≤ 100000) : ∀ (m k : Nat), k + 1 + m = r → Reaches Tryd.prog 0 (hdAt fCn 4 [] (m + 1)) (cnS p (chU p b k) (chO p b (k + 1)) r ((k + 1 : Nat) : Int)) [.fin] (cnE (chO p b r))
  | 0, k, h => by
    obtain rfl : r = k + 1 := by omega
    refine Reaches.oneK (Reaches.runK tyT_ok cnO_ok mixed_ (cn_end p (chU p b k) (chO p b (k + 1)) _ (k + 1) 0) ⟨tB_nlt.2 (by omega), trivial⟩)
  | m + 1, k, h => by
    have ih := cn_rounds p b hp r hr m (k + 1) (by omega)
    have hrun := cn_round p (chU p b k) (chO p b (k + 1)) r (k + 1) (m + 1)
    rw [cutI_all, cut_full (chU_len p b k)] at hrun
    have hin := cn_loop p (chU p b (k + 1)) (chO p b (k + 1)) (chU_len _ _ _) (chO_len _ _ _) r (k + 1) (m + 1) (by omega)
    refine (Reaches.oneK ((Reaches.runK tyT_ok cnO_ok mixed_ hrun ?_).trans hin)).trans ih
    simp only [allP_cons, allP_nil, and_true, true_and, tB_lt, tB_gt, chU_len]
    omega
/-- The four bytes of a small number. -/
def nB (i : Int) : List Int := [0, 0, 0, i]
theorem ishr_i64 (X n : Nat) (hn : n ≤ 64) : ishr .i64 (X : Int) n = ((X / 2 ^ n : Nat) : Int) := ishr_nat X n hn
theorem nB_eq (i : Nat) (h : i ≤ 255) : [IntKind.wrap .u8 (ishr .i64 (i : Int) 24), IntKind.wrap .u8 (ishr .i64 (i : Int) 16), IntKind.wrap .u8 (ishr .i64 (i : Int) 8), IntKind.wrap .u8 (i : Int)] = nB i := by
  have h0 : ∀ n, 8 ≤ n → n ≤ 64 → IntKind.wrap .u8 (ishr .i64 (i : Int) n) = 0 := fun n h1 h2 => by
    rw [ishr_i64 _ _ h2, Nat.div_eq_of_lt (Nat.lt_of_lt_of_le (by omega : i < 2 ^ 8) (Nat.pow_le_pow_right (by omega) h1))]
    decide
  rw [h0 24 (by omega) (by omega), h0 16 (by omega) (by omega), h0 8 (by omega) (by omega)]
  unfold nB
  have : IntKind.wrap .u8 (i : Int) = (i : Int) := by
    rw [wB_def]
    omega
  rw [this]
def cnF : List CB → Option BR
  | [.sl .u8 p, .sl .u8 s, .av (.one (.v (.int .i64 r))), .av (.one (.v (.int .i64 i)))] => some { pre := 1 ≤ r ∧ r ≤ 100000 ∧ 0 ≤ i ∧ i ≤ 255 ∧ p.length ≤ 800000 ∧ s.length ≤ 700000, val := .av (.one (.s 0 0 48 48)), new := [⟨0, 5, [.arr .u8 (chO p (s ++ nB i) r.toNat)]⟩] }
  | _ => none
theorem cn_ends [G384] (cbs : List CB) (r : BR) (hF : cnF cbs = some r) (hp : r.pre) : EndsB Tryd.prog tyT [] fCn cbs r := by
  unfold cnF at hF
  split at hF
  · rename_i p s r i
    injection hF with hF
    subst hF
    obtain ⟨h1, h2, h3, h4, lp, ls⟩ : 1 ≤ r ∧ r ≤ 100000 ∧ 0 ≤ i ∧ i ≤ 255 ∧ p.length ≤ 800000 ∧ s.length ≤ 700000 := hp
    obtain ⟨R, rfl⟩ : ∃ R : Nat, r = ((R + 1 : Nat) : Int) := ⟨r.toNat - 1, by omega⟩
    obtain ⟨I, rfl⟩ : ∃ I : Nat, i = I := ⟨i.toNat, by omega⟩
    intro κ
    have hst := cn_start κ p s ((R + 1 : Nat) : Int) I
    rw [nB_eq I (by omega), cutI_all, cutI_all, cut_full (l := nB I) (n := 4) rfl] at hst
    have hU : macL p (s ++ nB I) = chU p (s ++ nB I) 0 := rfl
    rw [hU] at hst
    have hfi := cn_first p (chU p (s ++ nB I) 0) (chO p (s ++ nB I) 0) ((R + 1 : Nat) : Int) (R + 1)
    have hin := cn_loop p (chU p (s ++ nB I) 0) (chO p (s ++ nB I) 0) (chU_len _ _ _) (chO_len _ _ _) ((R + 1 : Nat) : Int) 0 (R + 1) (by omega)
    have hrs := cn_rounds p (s ++ nB I) lp (R + 1) (by omega) R 0 (by omega)
    have hg := Reaches.roundsK (R + 2) ((Reaches.oneK ((Reaches.runK tyT_ok cnO_ok mixed_ hfi ⟨tB_lt.2 (by omega), trivial⟩).trans hin)).trans hrs)
    have h := (FromK.run (m0 := 0) tyT_ok cnO_ok mixed_ hst ?_).trans hg
    · exact ⟨[.fin], _, .av (.one (.s 0 0 48 48)), [0], .inr rfl, h, by kernel_rfl, by kernel_rfl, by kernel_rfl⟩
    · have l4 : (nB I).length = 4 := rfl
      simp only [allP_cons, allP_nil, and_true, true_and, l4]
      omega
  · cases hF
theorem chain_ent [G384] (sh : List ShB) (hs : sh.length = 4 := by rfl) : EntOK Tryd.prog 44 (entB sh cnF) :=
  ok_B tyT_ok Tryd.func44 (by kernel_rfl) (by kernel_rfl) [] (fun x hx => by cases hx) (by rw [hs]; kernel_rfl) cn_ends
end
end Go.Proofs.YtmhmfmnjdbehcaaDoor.Am
/- mac.Stretch. Conditions: none. -/
namespace Go.Proofs.YtmhmfmnjdbehcaaDoor.Am
set_option linter.unusedVariables false
set_option linter.unusedSimpArgs false
open Go Go.RowKit
set_option linter.unusedSectionVars false
section
variable [GT] [GRnd]
noncomputable abbrev fSx : Func := Tryd.f33
noncomputable def sxO : List (Nat × Ent) := [(44, entB [.sl .u8, .sl .u8, .av, .av] cnF)]
theorem sxO_ok [G384] : OOK Tryd.prog sxO := ook_of (l := [(44, entB [.sl .u8, .sl .u8, .av, .av] cnF)]) ⟨chain_ent _, trivial⟩
def sxH (p s : List Int) : List (Nat × Blk) := [(0, ⟨2, 0, [.arr .u8 p]⟩), (1, ⟨2, 0, [.arr .u8 s]⟩)]
def sxS0 (p s : List Int) (r n : Int) : St := { tm := tmL 43 [(0, .av (.one (.r 0 0 p.length 0))), (1, .av (.one (.r 1 0 s.length 0))), (2, ofV (.int .i64 r)), (3, ofV (.int .i64 n)), (10, ofV (.slice none 0 0)), (11, ofV (.int .i64 1))], hp := sxH p s, nx := 2, gl := [] }
def sxS (p s o : List Int) (r n i : Int) (L : Nat) : St := { tm := tmL 43 [(0, .av (.one (.r 0 0 p.length 0))), (1, .av (.one (.r 1 0 s.length 0))), (2, ofV (.int .i64 r)), (3, ofV (.int .i64 n)), (10, .av (.one (.r 2 0 L 0))), (11, ofV (.int .i64 i))], hp := sxH p s ++ [(2, ⟨1, 5, [.arr .u8 o]⟩)], nx := 3, gl := [] }
def sxEb : St := { tm := tmL 43 [(8, ofV (.slice none 0 0)), (9, ofV (.int .i64 1))], hp := [], nx := 0, gl := [] }
def sxEz : St := { tm := tmL 43 [(8, ofV (.slice none 0 0)), (9, ofV (.int .i64 0))], hp := [], nx := 0, gl := [] }
def sxE (o : List Int) (n : Nat) : St := { tm := tmL 43 [(8, .av (.one (.s 0 0 n n))), (9, ofV (.int .i64 0))], hp := [(0, ⟨1, 5, [.arr .u8 o]⟩)], nx := 1, gl := [] }
theorem sx_bad0 (κ : Nat → Value) (p s : List Int) (r n : Int) : runF tyT sxO (atH 1 2 (isB true) noH) [] 0 [] [8, 9] fSx (bA (cnB p s r n) 0 0) (bH κ (cnB p s r n) 0 0) 2 [] = some ([.fin], sxEb, [tB (decide (r < 1)) true]) := by kernel_rfl
theorem sx_bad1 (κ : Nat → Value) (p s : List Int) (r n : Int) : runF tyT sxO (atH 1 2 (isB false) (atH 1 6 (isB true) noH)) [] 0 [] [8, 9] fSx (bA (cnB p s r n) 0 0) (bH κ (cnB p s r n) 0 0) 2 [] = some ([.fin], sxEb, [tB (decide (r < 1)) false, tB (decide (r > 1000)) true]) := by kernel_rfl
theorem sx_bad2 (κ : Nat → Value) (p s : List Int) (r n : Int) : runF tyT sxO (atH 1 2 (isB false) (atH 1 6 (isB false) (atH 1 10 (isB true) noH))) [] 0 [] [8, 9] fSx (bA (cnB p s r n) 0 0) (bH κ (cnB p s r n) 0 0) 2 [] = some ([.fin], sxEb, [tB (decide (r < 1)) false, tB (decide (r > 1000)) false, tB (decide (n < 0)) true]) := by kernel_rfl
theorem sx_bad3 (κ : Nat → Value) (p s : List Int) (r n : Int) : runF tyT sxO (atH 1 2 (isB false) (atH 1 6 (isB false) (atH 1 10 (isB false) (atH 1 13 (isB true) noH)))) [] 0 [] [8, 9] fSx (bA (cnB p s r n) 0 0) (bH κ (cnB p s r n) 0 0) 2 [] = some ([.fin], sxEb, [tB (decide (r < 1)) false, tB (decide (r > 1000)) false, tB (decide (n < 0)) false, tB (decide (n > 1000)) true]) := by kernel_rfl
theorem sx_start (κ : Nat → Value) (p s : List Int) (r n : Int) : runF tyT sxO (atH 1 2 (isB false) (atH 1 6 (isB false) (atH 1 10 (isB false) (atH 1 13 (isB false) noH)))) [] 0 [0, 1] [0, 1, 2, 3, 10, 11] fSx (bA (cnB p s r n) 0 0) (bH κ (cnB p s r n) 0 0) 2 [] = some (toAt fSx 5 [], sxS0 p s r n, [tB (decide (r < 1)) false, tB (decide (r > 1000)) false, tB (decide (n < 0)) false, tB (decide (n > 1000)) false]) := by kernel_rfl
theorem sx_first (p s : List Int) (r n : Int) (k_ : Nat) : runN tyT sxO (atH 5 3 (isB true) (atH 7 6 symH noH)) [] 2000 0 [0, 1, 3] [0, 1, 2, 3, 10, 11] (inAt fSx 5 [] k_) (sxS0 p s r n) = some (hdAt fSx 5 [] k_, sxS p s (List.take 48 (List.drop 0 (chO (cutI p 0 p.length) ((cutI s 0 s.length) ++ nB 1) r.toNat))) r n 2 48, [tB (decide (0 < n)) true, 0 + p.length ≤ p.length, 0 + s.length ≤ s.length, 1 ≤ r ∧ r ≤ 100000 ∧ 0 ≤ (1 : Int) ∧ (1 : Int) ≤ 255 ∧ (cutI p 0 p.length).length ≤ 800000 ∧ (cutI s 0 s.length).length ≤ 700000, 48 ≤ widths [Seg.arr .u8 (chO (cutI p 0 p.length) ((cutI s 0 s.length) ++ nB 1) r.toNat)], 96 ≤ 140737488355328]) := by kernel_rfl
theorem sx_none (p s : List Int) (r n : Int) (k_ : Nat) : runN tyT sxO (atH 5 3 (isB false) (atH 8 3 symH noH)) [] 2000 0 [] [8, 9] (inAt fSx 5 [] k_) (sxS0 p s r n) = some ([.fin], sxEz, [tB (decide (0 < n)) false, 0 ≤ n ∧ n.toNat ≤ 0, 0 ≤ n ∧ n.toNat ≤ n.toNat]) := by kernel_rfl
theorem sx_round (p s o : List Int) (r n : Int) (i L k_ : Nat) : runN tyT sxO (atH 5 3 (isB true) (atH 7 6 symH (atH 6 1 (isI .i64 ((i + 1 : Nat) : Int)) noH))) [] 2000 0 [0, 1, 4] [0, 1, 2, 3, 10, 11] (inAt fSx 5 [] k_) (sxS p s o r n i L) = some (hdAt fSx 5 [] k_, sxS p s (o ++ List.take 48 (List.drop 0 (chO (cutI p 0 p.length) ((cutI s 0 s.length) ++ nB (i : Int)) r.toNat))) r n ((i + 1 : Nat) : Int) (widths [Seg.arr .u8 o] + 48), [tB (decide ((L : Int) < n)) true, 0 + p.length ≤ p.length, 0 + s.length ≤ s.length, 1 ≤ r ∧ r ≤ 100000 ∧ 0 ≤ (i : Int) ∧ (i : Int) ≤ 255 ∧ (cutI p 0 p.length).length ≤ 800000 ∧ (cutI s 0 s.length).length ≤ 700000, L = widths [Seg.arr .u8 o], 48 ≤ widths [Seg.arr .u8 (chO (cutI p 0 p.length) ((cutI s 0 s.length) ++ nB (i : Int)) r.toNat)], (widths [Seg.arr .u8 o] + 48) * 2 ≤ 140737488355328, tI .i64 (IntKind.wrap .i64 ((i : Int) + 1)) ((i + 1 : Nat) : Int)]) := by kernel_rfl
theorem sx_last (p s o : List Int) (r n : Int) (i L k_ : Nat) : runN tyT sxO (atH 5 3 (isB false) (atH 8 3 symH noH)) [] 2000 0 [2] [8, 9] (inAt fSx 5 [] k_) (sxS p s o r n i L) = some ([.fin], sxE o n.toNat, [tB (decide ((L : Int) < n)) false, 0 + L ≤ widths [Seg.arr .u8 o], 0 ≤ n ∧ n.toNat ≤ widths [Seg.arr .u8 o] - 0, 0 ≤ n ∧ n.toNat ≤ n.toNat, 1 ≤ n.toNat]) := by kernel_rfl
/-- All chains so far. -/
def stO (p s : List Int) (r : Nat) : Nat → List Int
  | 0 => []
  | i + 1 => stO p s r i ++ chO p (s ++ nB ((i + 1 : Nat) : Int)) r
theorem stO_len (p s : List Int) (r : Nat) : ∀ i, (stO p s r i).length = 48 * i
  | 0 => rfl
  | i + 1 => by
    show (stO p s r i ++ chO p (s ++ nB ((i + 1 : Nat) : Int)) r).length = _
    rw [List.length_append, chO_len, stO_len p s r i]
    omega
theorem sx_rounds [G384] (p s : List Int) (r : Int) (n : Nat) (hp : p.length ≤ 800000) (hs : s.length ≤ 700000) (r1 : 1 ≤ r) (r2 : r ≤ 1000) (h1 : 1 ≤ n) (h2 : n ≤ 1000) : ∀ (m i : Nat), i + 1 + m = (n + 47) / 48 → Reaches Tryd.prog 0 (hdAt fSx 5 [] (m + 1)) (sxS p s (stO p s r.toNat (i + 1)) r n ((i + 2 : Nat) : Int) (48 * (i + 1))) [.fin] (sxE (stO p s r.toNat ((n + 47) / 48)) n)
  | 0, i, e => by
    have e1 : (n + 47) / 48 = i + 1 := by omega
    rw [e1]
    refine Reaches.oneK (Reaches.runK tyT_ok sxO_ok mixed_ (sx_last p s (stO p s r.toNat (i + 1)) r n (i + 2) (48 * (i + 1)) 0) ?_)
    simp only [allP_cons, allP_nil, and_true, true_and, tB_nlt, widths_o, stO_len]
    omega
  | m + 1, i, e => by
    have ih := sx_rounds p s r n hp hs r1 r2 h1 h2 m (i + 1) (by omega)
    have hrun := sx_round p s (stO p s r.toNat (i + 1)) r n (i + 2) (48 * (i + 1)) (m + 1)
    rw [cutI_all, cutI_all, take_full (chO_len _ _ _), widths_o, stO_len] at hrun
    refine (Reaches.oneK (Reaches.runK tyT_ok sxO_ok mixed_ hrun ?_)).trans ih
    simp only [allP_cons, allP_nil, and_true, true_and, tB_lt, tI_iff, widths_o, stO_len, chO_len]
    rw [w64 (by omega) (by omega)]
    omega
theorem sx_go [G384] (p s : List Int) (r : Int) (n : Nat) (hp : p.length ≤ 800000) (hs : s.length ≤ 700000) (r1 : 1 ≤ r) (r2 : r ≤ 1000) (h1 : 1 ≤ n) (h2 : n ≤ 1000) : Reaches Tryd.prog 0 (toAt fSx 5 []) (sxS0 p s r n) [.fin] (sxE (stO p s r.toNat ((n + 47) / 48)) n) := by
  obtain ⟨m, hr⟩ : ∃ m, 0 + 1 + m = (n + 47) / 48 := ⟨(n + 47) / 48 - 1, by omega⟩
  have hrun := sx_first p s r n (m + 1)
  rw [cutI_all, cutI_all, take_full (chO_len _ _ _)] at hrun
  refine Reaches.roundsK (m + 2) ((Reaches.oneK (Reaches.runK tyT_ok sxO_ok mixed_ hrun ?_)).trans (sx_rounds p s r n hp hs r1 r2 h1 h2 m 0 hr))
  simp only [allP_cons, allP_nil, and_true, true_and, tB_lt, widths_o, chO_len]
  omega
theorem sx_nil [G384] (p s : List Int) (r : Int) : Reaches Tryd.prog 0 (toAt fSx 5 []) (sxS0 p s r 0) [.fin] sxEz := by
  refine Reaches.roundsK 1 (Reaches.oneK (Reaches.runK tyT_ok sxO_ok mixed_ (sx_none p s r 0 0) ?_))
  exact ⟨tB_nlt.2 (by omega), ⟨by decide, by decide⟩, ⟨by decide, by decide⟩, trivial⟩
def sxFb : List CB → Option BR
  | [.sl .u8 _, .sl .u8 _, .av (.one (.v (.int .i64 r))), .av (.one (.v (.int .i64 n)))] => some { pre := r < 1 ∨ 1000 < r ∨ n < 0 ∨ 1000 < n, val := .tup [.one (.v (.slice none 0 0)), .one (.v (.int .i64 1))] }
  | _ => none
def sxFz : List CB → Option BR
  | [.sl .u8 _, .sl .u8 _, .av (.one (.v (.int .i64 r))), .av (.one (.v (.int .i64 n)))] => some { pre := n = 0 ∧ 1 ≤ r ∧ r ≤ 1000, val := .tup [.one (.v (.slice none 0 0)), .one (.v (.int .i64 0))] }
  | _ => none
def sxF : List CB → Option BR
  | [.sl .u8 p, .sl .u8 s, .av (.one (.v (.int .i64 r))), .av (.one (.v (.int .i64 n)))] => some { pre := 1 ≤ n ∧ n ≤ 1000 ∧ 1 ≤ r ∧ r ≤ 1000 ∧ p.length ≤ 800000 ∧ s.length ≤ 700000, val := .tup [.one (.s 0 0 n.toNat n.toNat), .one (.v (.int .i64 0))], new := [⟨1, 5, [.arr .u8 (stO p s r.toNat ((n.toNat + 47) / 48))]⟩] }
  | _ => none
theorem sx_endsb [G384] (cbs : List CB) (r : BR) (hF : sxFb cbs = some r) (hp : r.pre) : EndsB Tryd.prog tyT [] fSx cbs r := by
  unfold sxFb at hF
  split at hF
  · rename_i p s r n
    injection hF with hF
    subst hF
    have hn : r < 1 ∨ 1000 < r ∨ n < 0 ∨ 1000 < n := hp
    intro κ
    have h : FromK Tryd.prog 0 fSx (bA (cnB p s r n) 0 0) (bH κ (cnB p s r n) 0 0) 2 [] [.fin] sxEb := by
      by_cases h0 : r < 1
      · exact FromK.run (m0 := 0) tyT_ok sxO_ok mixed_ (sx_bad0 κ p s r n) ⟨tB_lt.2 h0, trivial⟩
      · by_cases h1 : 1000 < r
        · exact FromK.run (m0 := 0) tyT_ok sxO_ok mixed_ (sx_bad1 κ p s r n) ⟨tB_nlt.2 (by omega), tB_gt.2 h1, trivial⟩
        · by_cases h2 : n < 0
          · exact FromK.run (m0 := 0) tyT_ok sxO_ok mixed_ (sx_bad2 κ p s r n) ⟨tB_nlt.2 (by omega), tB_ngt.2 (by omega), tB_lt.2 h2, trivial⟩
          · exact FromK.run (m0 := 0) tyT_ok sxO_ok mixed_ (sx_bad3 κ p s r n) ⟨tB_nlt.2 (by omega), tB_ngt.2 (by omega), tB_nlt.2 (by omega), tB_gt.2 (by omega), trivial⟩
    exact ⟨[.fin], _, .tup [.one (.v (.slice none 0 0)), .one (.v (.int .i64 1))], [], .inr rfl, h, by kernel_rfl, by kernel_rfl, by kernel_rfl⟩
  · cases hF
theorem sx_begin [G384] (κ : Nat → Value) (p s : List Int) (r n : Int) (r1 : 1 ≤ r) (r2 : r ≤ 1000) (h1 : 0 ≤ n) (h2 : n ≤ 1000) : FromK Tryd.prog 0 fSx (bA (cnB p s r n) 0 0) (bH κ (cnB p s r n) 0 0) 2 [] (toAt fSx 5 []) (sxS0 p s r n) :=
  FromK.run (m0 := 0) tyT_ok sxO_ok mixed_ (sx_start κ p s r n) ⟨tB_nlt.2 r1, tB_ngt.2 r2, tB_nlt.2 h1, tB_ngt.2 h2, trivial⟩
theorem sx_endsz [G384] (cbs : List CB) (r : BR) (hF : sxFz cbs = some r) (hp : r.pre) : EndsB Tryd.prog tyT [] fSx cbs r := by
  unfold sxFz at hF
  split at hF
  · rename_i p s r n
    injection hF with hF
    subst hF
    obtain ⟨hn, r1, r2⟩ : n = 0 ∧ 1 ≤ r ∧ r ≤ 1000 := hp
    subst hn
    intro κ
    have h := (sx_begin κ p s r 0 r1 r2 (by omega) (by omega)).trans (sx_nil p s r)
    exact ⟨[.fin], _, .tup [.one (.v (.slice none 0 0)), .one (.v (.int .i64 0))], [], .inr rfl, h, by kernel_rfl, by kernel_rfl, by kernel_rfl⟩
  · cases hF
theorem sx_ends [G384] (cbs : List CB) (r : BR) (hF : sxF cbs = some r) (hp : r.pre) : EndsB Tryd.prog tyT [] fSx cbs r := by
  unfold sxF at hF
  split at hF
  · rename_i p s r n
    injection hF with hF
    subst hF
    obtain ⟨h1, h2, r1, r2, lp, ls⟩ : 1 ≤ n ∧ n ≤ 1000 ∧ 1 ≤ r ∧ r ≤ 1000 ∧ p.length ≤ 800000 ∧ s.length ≤ 700000 := hp
    obtain ⟨N, rfl⟩ : ∃ N : Nat, n = N := ⟨n.toNat, by omega⟩
    intro κ
    have h := (sx_begin κ p s r N r1 r2 (by omega) (by omega)).trans (sx_go p s r N lp ls r1 r2 (by omega) (by omega))
    exact ⟨[.fin], _, .tup [.one (.s 0 0 N N), .one (.v (.int .i64 0))], [0], .inr rfl, h, by kernel_rfl, by kernel_rfl, by kernel_rfl⟩
  · cases hF
theorem stretch_entb [G384] (sh : List ShB) (hs : sh.length = 4 := by rfl) : EntOK Tryd.prog 33 (entB sh sxFb) :=
  ok_B tyT_ok Tryd.func33 (by kernel_rfl) (by kernel_rfl) [] (fun x hx => by cases hx) (by rw [hs]; kernel_rfl) sx_endsb
theorem stretch_entz [G384] (sh : List ShB) (hs : sh.length = 4 := by rfl) : EntOK Tryd.prog 33 (entB sh sxFz) :=
  ok_B tyT_ok Tryd.func33 (by kernel_rfl) (by kernel_rfl) [] (fun x hx => by cases hx) (by rw [hs]; kernel_rfl) sx_endsz
theorem stretch_ent [G384] (sh : List ShB) (hs : sh.length = 4 := by rfl) : EntOK Tryd.prog 33 (entB sh sxF) :=
  ok_B tyT_ok Tryd.func33 (by kernel_rfl) (by kernel_rfl) [] (fun x hx => by cases hx) (by rw [hs]; kernel_rfl) sx_ends
end
end Go.Proofs.YtmhmfmnjdbehcaaDoor.Am
/- The document's keys out of passwords. Conditions: none. -/
namespace Go.Proofs.YtmhmfmnjdbehcaaDoor.Am
set_option linter.unusedVariables false
set_option linter.unusedSimpArgs false
open Go Go.RowKit
set_option linter.unusedSectionVars false
section
variable [GT] [GRnd]
noncomputable abbrev fRt : Func := Tryd.f34
noncomputable def rtO : List (Nat × Ent) := [(31, entB [.sl .u8, .sl .u8] r3F)]
theorem rtO_ok [G384] : OOK Tryd.prog rtO := ook_of (l := [(31, entB [.sl .u8, .sl .u8] r3F)]) ⟨r3sum_ent _, trivial⟩
def rtS0 (p s : List Int) (r n : Int) : St := { tm := tmL 69 [(0, .av (.one (.r 0 0 p.length 0))), (1, .av (.one (.r 1 0 s.length 0))), (2, ofV (.int .i64 r)), (3, ofV (.int .i64 n)), (9, ofV (.slice none 0 0)), (10, ofV (.int .i64 1))], hp := sxH p s, nx := 2, gl := [] }
def rtS (p s o : List Int) (r n i : Int) (L : Nat) : St := { tm := tmL 69 [(0, .av (.one (.r 0 0 p.length 0))), (1, .av (.one (.r 1 0 s.length 0))), (2, ofV (.int .i64 r)), (3, ofV (.int .i64 n)), (9, .av (.one (.r 2 0 L 0))), (10, ofV (.int .i64 i))], hp := sxH p s ++ [(2, ⟨1, 5, [.arr .u8 o]⟩)], nx := 3, gl := [] }
def rtH (p s o u a : List Int) : List (Nat × Blk) := [(0, ⟨2, 0, [.arr .u8 p]⟩), (1, ⟨2, 0, [.arr .u8 s]⟩), (2, ⟨1, 5, [.arr .u8 o]⟩), (3, ⟨1, 5, [.arr .u8 u]⟩), (4, ⟨1, 5, [.arr .u8 a]⟩)]
def rtM (p s o u a : List Int) (r n i k : Int) (L : Nat) : St := { tm := tmL 69 [(0, .av (.one (.r 0 0 p.length 0))), (1, .av (.one (.r 1 0 s.length 0))), (2, ofV (.int .i64 r)), (3, ofV (.int .i64 n)), (9, .av (.one (.r 2 0 L 0))), (10, ofV (.int .i64 i)), (11, .av (.one (.r 3 0 48 0))), (12, .av (.one (.r 4 0 48 0))), (13, ofV (.int .i64 k))], hp := rtH p s o u a, nx := 5, gl := [] }
def rtI (p s o u a : List Int) (r n i k j : Int) (L : Nat) : St := { tm := tmL 69 [(0, .av (.one (.r 0 0 p.length 0))), (1, .av (.one (.r 1 0 s.length 0))), (2, ofV (.int .i64 r)), (3, ofV (.int .i64 n)), (9, .av (.one (.r 2 0 L 0))), (10, ofV (.int .i64 i)), (11, .av (.one (.r 3 0 48 0))), (12, .av (.one (.r 4 0 48 0))), (13, ofV (.int .i64 k)), (46, ofV (.int .i64 48)), (47, ofV (.int .i64 j))], hp := rtH p s o u a, nx := 5, gl := [] }
def rtEz : St := { tm := tmL 69 [(8, ofV (.slice none 0 0))], hp := [], nx := 0, gl := [] }
def rtE (o : List Int) (n : Nat) : St := { tm := tmL 69 [(8, .av (.one (.r 0 0 n 0)))], hp := [(0, ⟨1, 5, [.arr .u8 o]⟩)], nx := 1, gl := [] }
theorem rt_start (κ : Nat → Value) (p s : List Int) (r n : Int) : runF tyT rtO noH [] 0 [0, 1] [0, 1, 2, 3, 9, 10] fRt (bA (cnB p s r n) 0 0) (bH κ (cnB p s r n) 0 0) 2 [] = some (toAt fRt 3 [], rtS0 p s r n, []) := by kernel_rfl
theorem rt_none (p s : List Int) (r n : Int) (k_ : Nat) : runN tyT rtO (atH 3 3 (isB false) (atH 17 2 symH noH)) [] 2000 0 [] [8] (inAt fRt 3 [] k_) (rtS0 p s r n) = some ([.fin], rtEz, [tB (decide (0 < n)) false, 0 ≤ n ∧ n.toNat ≤ 0]) := by kernel_rfl
theorem rt_go (p s o : List Int) (r n : Int) (i L k_ : Nat) : runN tyT rtO (atH 3 3 (isB true) (atH 5 3 symH (atH 5 11 symH (atH 6 2 symH noH)))) [] 2000 0 [0, 1, 2, 7, 9] [0, 1, 2, 3, 9, 10, 11, 12, 13] (inAt fRt 3 [] k_) (rtS p s o r n i L) = some (toAt fRt 8 [k_], rtM p s o (macL (cutI p 0 p.length) (cutI ((List.take s.length s) ++ [0, 0, IntKind.wrap .u8 (IntKind.wrap .i64 (Int.tdiv (i : Int) 256)), IntKind.wrap .u8 (Int.tmod (i : Int) 256)]) 0 (widths [Seg.arr .u8 (List.take s.length s)] + 4))) (List.take 48 (List.drop 0 (macL (cutI p 0 p.length) (cutI ((List.take s.length s) ++ [0, 0, IntKind.wrap .u8 (IntKind.wrap .i64 (Int.tdiv (i : Int) 256)), IntKind.wrap .u8 (Int.tmod (i : Int) 256)]) 0 (widths [Seg.arr .u8 (List.take s.length s)] + 4))))) r n i 1 L, [tB (decide ((L : Int) < n)) true, 0 = widths [] ∧ 0 = widths [], 0 + s.length ≤ widths [Seg.arr .u8 s], (0 + s.length) * 2 ≤ 140737488355328, 0 + s.length = widths [Seg.arr .u8 (List.take s.length s)], 4 ≤ 4, (widths [Seg.arr .u8 (List.take s.length s)] + 4) * 2 ≤ 140737488355328, 0 + p.length ≤ p.length, 0 + (widths [Seg.arr .u8 (List.take s.length s)] + 4) ≤ ((List.take s.length s) ++ [0, 0, IntKind.wrap .u8 (IntKind.wrap .i64 (Int.tdiv (i : Int) 256)), IntKind.wrap .u8 (Int.tmod (i : Int) 256)]).length, isBs (cutI p 0 p.length) ∧ isBs (cutI ((List.take s.length s) ++ [0, 0, IntKind.wrap .u8 (IntKind.wrap .i64 (Int.tdiv (i : Int) 256)), IntKind.wrap .u8 (Int.tmod (i : Int) 256)]) 0 (widths [Seg.arr .u8 (List.take s.length s)] + 4)) ∧ (cutI p 0 p.length).length ≤ 800000 ∧ (cutI ((List.take s.length s) ++ [0, 0, IntKind.wrap .u8 (IntKind.wrap .i64 (Int.tdiv (i : Int) 256)), IntKind.wrap .u8 (Int.tmod (i : Int) 256)]) 0 (widths [Seg.arr .u8 (List.take s.length s)] + 4)).length ≤ 800000, 0 = widths [] ∧ 0 = widths [], 48 ≤ widths [Seg.arr .u8 (macL (cutI p 0 p.length) (cutI ((List.take s.length s) ++ [0, 0, IntKind.wrap .u8 (IntKind.wrap .i64 (Int.tdiv (i : Int) 256)), IntKind.wrap .u8 (Int.tmod (i : Int) 256)]) 0 (widths [Seg.arr .u8 (List.take s.length s)] + 4)))], 96 ≤ 140737488355328]) := by kernel_rfl
theorem rt_last (p s o : List Int) (r n : Int) (i L k_ : Nat) : runN tyT rtO (atH 3 3 (isB false) (atH 17 2 symH noH)) [] 2000 0 [2] [8] (inAt fRt 3 [] k_) (rtS p s o r n i L) = some ([.fin], rtE o n.toNat, [tB (decide ((L : Int) < n)) false, 0 + L ≤ widths [Seg.arr .u8 o], 0 ≤ n ∧ n.toNat ≤ widths [Seg.arr .u8 o] - 0]) := by kernel_rfl
theorem rt_mid (p s o u a : List Int) (r n : Int) (i k L q_ k_ : Nat) : runN tyT rtO (atH 8 2 (isB true) noH) [] 2000 0 [0, 1, 2, 5, 4] [0, 1, 2, 3, 9, 10, 11, 12, 13, 46, 47] (inAt fRt 8 [q_] k_) (rtM p s o u a r n i k L) = some (toAt fRt 12 [q_, k_], rtI p s o (macL (cutI p 0 p.length) (cutI u 0 48)) a r n i k 0 L, [tB (decide ((k : Int) < r)) true, 0 + p.length ≤ p.length, 48 ≤ u.length, isBs (cutI p 0 p.length) ∧ isBs (cutI u 0 48) ∧ (cutI p 0 p.length).length ≤ 800000 ∧ (cutI u 0 48).length ≤ 800000]) := by kernel_rfl
theorem rt_app (p s o u a : List Int) (r n : Int) (i k L q_ k_ : Nat) : runN tyT rtO (atH 8 2 (isB false) (atH 16 2 symH (atH 4 1 (isI .i64 ((i + 1 : Nat) : Int)) noH))) [] 2000 0 [0, 1, 5] [0, 1, 2, 3, 9, 10] (inAt fRt 8 [q_] k_) (rtM p s o u a r n i k L) = some (hdAt fRt 3 [] q_, rtS p s (o ++ List.take 48 a) r n ((i + 1 : Nat) : Int) (widths [Seg.arr .u8 o] + 48), [tB (decide ((k : Int) < r)) false, L = widths [Seg.arr .u8 o], 48 ≤ widths [Seg.arr .u8 a], (widths [Seg.arr .u8 o] + 48) * 2 ≤ 140737488355328, tI .i64 (IntKind.wrap .i64 ((i : Int) + 1)) ((i + 1 : Nat) : Int)]) := by kernel_rfl
theorem rt_in (p s o u a : List Int) (r n : Int) (i k j L q_ x_ k_ : Nat) : runN tyT rtO (atH 12 0 (isB true) (atH 14 4 symH (atH 14 5 symH (atH 14 8 symH (atH 14 9 symH (atH 14 11 symH (atH 14 12 symH (atH 15 0 (isI .i64 ((j + 1 : Nat) : Int)) noH)))))))) [] 2000 0 [0, 1, 2, 3, 4] [0, 1, 2, 3, 9, 10, 11, 12, 13, 46, 47] (inAt fRt 12 [q_, x_] k_) (rtI p s o u a r n i k j L) = some (hdAt fRt 12 [q_, x_] k_, rtI p s o u (a.set j (ixor .u8 (a.getD j 0) (u.getD j 0))) r n i k ((j + 1 : Nat) : Int) L, [tB (decide ((j : Int) < 48)) true, 48 ≤ widths [Seg.arr .u8 a], 0 ≤ (j : Int) ∧ (j : Int).toNat ≤ 48 - 1, 1 ≤ 48, j < a.length, 48 ≤ widths [Seg.arr .u8 u], 0 ≤ (j : Int) ∧ (j : Int).toNat ≤ 48 - 1, 1 ≤ 48, j < u.length, 48 ≤ widths [Seg.arr .u8 a], 0 ≤ (j : Int) ∧ (j : Int).toNat ≤ 48 - 1, 1 ≤ 48, j < a.length, tI .i64 (IntKind.wrap .i64 ((j : Int) + 1)) ((j + 1 : Nat) : Int)]) := by kernel_rfl
theorem rt_out (p s o u a : List Int) (r n : Int) (i k j L q_ x_ k_ : Nat) : runN tyT rtO (atH 12 0 (isB false) (atH 9 1 (isI .i64 ((k + 1 : Nat) : Int)) noH)) [] 2000 0 [0, 1, 2, 3, 4] [0, 1, 2, 3, 9, 10, 11, 12, 13] (inAt fRt 12 [q_, x_] k_) (rtI p s o u a r n i k j L) = some (hdAt fRt 8 [q_] x_, rtM p s o u a r n i ((k + 1 : Nat) : Int) L, [tB (decide ((j : Int) < 48)) false, tI .i64 (IntKind.wrap .i64 ((k : Int) + 1)) ((k + 1 : Nat) : Int)]) := by kernel_rfl
theorem rt_inner [G384] (p s o u a : List Int) (r n : Int) (i k L q_ x_ : Nat) (hu : u.length = 48) (hk : k ≤ 100000) : ∀ (m j : Nat), j + m = 48 → Reaches Tryd.prog 0 (hdAt fRt 12 [q_, x_] (m + 1)) (rtI p s o u (keyL 48 (xI (g2 a) (g2 u) j)) r n i k j L) (hdAt fRt 8 [q_] x_) (rtM p s o u (xorL a u) r n i ((k + 1 : Nat) : Int) L)
  | 0, j, h => by
    obtain rfl : j = 48 := by omega
    refine Reaches.oneK (Reaches.runK tyT_ok rtO_ok mixed_ (rt_out p s o u (keyL 48 (xI (g2 a) (g2 u) 48)) r n i k 48 L q_ x_ 0) ?_)
    simp only [allP_cons, allP_nil, and_true, tB_nlt, tI_iff]
    rw [w64 (by omega) (by omega)]
    omega
  | m + 1, j, h => by
    have hrun := rt_in p s o u (keyL 48 (xI (g2 a) (g2 u) j)) r n i k j L q_ x_ (m + 1)
    have eu : u.getD j 0 = g2 u j := rfl
    rw [keyL_get 48 _ j (by omega), eu, keyL_set, xI_succ] at hrun
    refine (Reaches.oneK (Reaches.runK tyT_ok rtO_ok mixed_ hrun ?_)).trans (rt_inner p s o u a r n i k L q_ x_ hu hk m (j + 1) (by omega))
    have e5 := w64 (z := ((j : Nat) : Int) + 1) (by omega) (by omega)
    simp only [allP_cons, allP_nil, and_true, true_and, tB_lt, tI_iff, widths_o, keyL_len, hu]
    omega
theorem rt_loop [G384] (p s o u a : List Int) (r n : Int) (i k L q_ x_ : Nat) (hu : u.length = 48) (ha : a.length = 48) (hk : k ≤ 100000) : Reaches Tryd.prog 0 (toAt fRt 12 [q_, x_]) (rtI p s o u a r n i k 0 L) (hdAt fRt 8 [q_] x_) (rtM p s o u (xorL a u) r n i ((k + 1 : Nat) : Int) L) := by
  have h := rt_inner p s o u a r n i k L q_ x_ hu hk 48 0 (by omega)
  have e : keyL 48 (xI (g2 a) (g2 u) 0) = a := by
    have e1 : xI (g2 a) (g2 u) 0 = g2 a := by
      funext j
      unfold xI
      rw [if_neg (by omega)]
    rw [e1, keyL_g2 ha]
  rw [e] at h
  exact Reaches.roundsK 49 h
theorem isBs_chU (p b : List Int) : ∀ k, isBs (chU p b k)
  | 0 => isBs_mac _ _
  | _ + 1 => isBs_mac _ _
theorem ixor8_0 {x : Int} (hx : 0 ≤ x ∧ x < 256) : ixor .u8 0 x = x := by
  have e : ixor .u8 0 x = ((V8 0 ^^^ V8 x).toNat : Int) := toNat_wB8 _
  have e0 : V8 0 = 0#8 := rfl
  rw [e, e0, BitVec.zero_xor, V8_toNat hx.1 hx.2]
theorem chO_one (p b : List Int) : chO p b 1 = chU p b 0 := by
  show keyL 48 (xI (g2 (List.replicate 48 0)) (g2 (chU p b 0)) 48) = _
  refine (keyL_congr fun i hi => ?_).trans (keyL_g2 (chU_len p b 0))
  unfold xI
  rw [if_pos hi]
  have e : g2 (List.replicate 48 (0 : Int)) i = 0 := by
    unfold g2
    rw [List.getD_eq_getElem?_getD, List.getElem?_replicate_of_lt hi]
    rfl
  rw [e]
  exact ixor8_0 (g2_in (isBs_chU _ _ _) i)
theorem rt_rounds [G384] (p s o b : List Int) (n : Int) (i L q_ : Nat) (lp : p.length ≤ 800000) (bp : isBs p) (r : Nat) (hr : r ≤ 100000) (hi : i ≤ 255) (hL : L = o.length) (hL2 : L ≤ 100000) : ∀ (m k : Nat), k + 1 + m = r → Reaches Tryd.prog 0 (hdAt fRt 8 [q_] (m + 1)) (rtM p s o (chU p b k) (chO p b (k + 1)) r n i ((k + 1 : Nat) : Int) L) (hdAt fRt 3 [] q_) (rtS p s (o ++ chO p b r) r n ((i + 1 : Nat) : Int) (L + 48))
  | 0, k, h => by
    obtain rfl : r = k + 1 := by omega
    have hrun := rt_app p s o (chU p b k) (chO p b (k + 1)) ((k + 1 : Nat) : Int) n i (k + 1) L q_ 0
    have e : List.take 48 (chO p b (k + 1)) = chO p b (k + 1) := List.take_of_length_le (by rw [chO_len]; omega)
    rw [e, widths_o, ← hL] at hrun
    refine Reaches.oneK (Reaches.runK tyT_ok rtO_ok mixed_ hrun ?_)
    simp only [allP_cons, allP_nil, and_true, true_and, tB_nlt, tI_iff, widths_o, chO_len]
    rw [w64 (by omega) (by omega)]
    omega
  | m + 1, k, h => by
    have ih := rt_rounds p s o b n i L q_ lp bp r hr hi hL hL2 m (k + 1) (by omega)
    have hrun := rt_mid p s o (chU p b k) (chO p b (k + 1)) r n i (k + 1) L q_ (m + 1)
    rw [cutI_all, cut_full (chU_len p b k)] at hrun
    have hin := rt_loop p s o (chU p b (k + 1)) (chO p b (k + 1)) r n i (k + 1) L q_ (m + 1) (chU_len _ _ _) (chO_len _ _ _) (by omega)
    refine (Reaches.oneK ((Reaches.runK tyT_ok rtO_ok mixed_ hrun ?_).trans hin)).trans ih
    simp only [allP_cons, allP_nil, and_true, true_and, tB_lt, chU_len, bp, isBs_chU p b k]
    omega
theorem nB_ref (i : Nat) (h : i ≤ 255) : [0, 0, IntKind.wrap .u8 (IntKind.wrap .i64 (Int.tdiv (i : Int) 256)), IntKind.wrap .u8 (Int.tmod (i : Int) 256)] = nB i := by
  rw [Int.tdiv_eq_ediv_of_nonneg (by omega), Int.tmod_eq_emod_of_nonneg (by omega), w64 (by omega) (by omega), wB_def, wB_def]
  unfold nB
  have e1 : (i : Int) / 256 % 256 = 0 := by omega
  have e2 : (i : Int) % 256 % 256 = i := by omega
  rw [e1, e2]
theorem nB_len (i : Int) : (nB i).length = 4 := rfl
theorem isBs_nB {i : Nat} (h : i ≤ 255) : isBs (nB i) := fun z hz => by
  simp only [nB, List.mem_cons, List.not_mem_nil, or_false] at hz
  omega
theorem cutW4 {a b : List Int} (h : b.length = 4) : cutI (a ++ b) 0 (widths [Seg.arr .u8 a] + 4) = a ++ b := by
  rw [widths_o]
  exact cut_full (by rw [List.length_append, h])
theorem rt_chain [G384] (p s : List Int) (r n i : Nat) (q_ : Nat) (lp : p.length ≤ 800000) (ls : s.length ≤ 700000) (bp : isBs p) (bs : isBs s) (r1 : 1 ≤ r) (r2 : r ≤ 100000) (hi : i ≤ 200) (hn : 48 * i < n) : Reaches Tryd.prog 0 (inAt fRt 3 [] q_) (rtS p s (stO p s r i) r n ((i + 1 : Nat) : Int) (48 * i)) (hdAt fRt 3 [] q_) (rtS p s (stO p s r (i + 1)) r n ((i + 2 : Nat) : Int) (48 * (i + 1))) := by
  have hrun := rt_go p s (stO p s r i) r n (i + 1) (48 * i) q_
  rw [nB_ref (i + 1) (by omega), List.take_length, cutI_all, cutW4 (nB_len _), take_full (macL_len _ _), widths_o] at hrun
  have hU : macL p (s ++ nB ((i + 1 : Nat) : Int)) = chU p (s ++ nB ((i + 1 : Nat) : Int)) 0 := rfl
  rw [hU] at hrun
  have bx : isBs (s ++ nB ((i + 1 : Nat) : Int)) := isBs_app bs (isBs_nB (by omega))
  have hrs := rt_rounds p s (stO p s r i) (s ++ nB ((i + 1 : Nat) : Int)) n (i + 1) (48 * i) q_ lp bp r r2 (by omega) (stO_len _ _ _ _).symm (by omega) (r - 1) 0 (by omega)
  rw [chO_one] at hrs
  refine (Reaches.runK tyT_ok rtO_ok mixed_ hrun ?_).trans (Reaches.roundsK (r - 1 + 1) hrs)
  simp only [allP_cons, allP_nil, and_true, true_and, tB_lt, widths_o, wd0, stO_len, chU_len, List.length_append, nB_len, bp, bx]
  omega
theorem rt_all [G384] (p s : List Int) (r n : Nat) (lp : p.length ≤ 800000) (ls : s.length ≤ 700000) (bp : isBs p) (bs : isBs s) (r1 : 1 ≤ r) (r2 : r ≤ 100000) (h1 : 1 ≤ n) (h2 : n ≤ 1000) : ∀ (m i : Nat), i + m = (n + 47) / 48 → Reaches Tryd.prog 0 (hdAt fRt 3 [] (m + 1)) (rtS p s (stO p s r i) r n ((i + 1 : Nat) : Int) (48 * i)) [.fin] (rtE (stO p s r ((n + 47) / 48)) n)
  | 0, i, e => by
    obtain rfl : i = (n + 47) / 48 := by omega
    refine Reaches.oneK (Reaches.runK tyT_ok rtO_ok mixed_ (rt_last p s (stO p s r ((n + 47) / 48)) r n ((n + 47) / 48 + 1) (48 * ((n + 47) / 48)) 0) ?_)
    simp only [allP_cons, allP_nil, and_true, true_and, tB_nlt, widths_o, stO_len]
    omega
  | m + 1, i, e => (Reaches.oneK (rt_chain p s r n i (m + 1) lp ls bp bs r1 r2 (by omega) (by omega))).trans (rt_all p s r n lp ls bp bs r1 r2 h1 h2 m (i + 1) (by omega))
def rtFz : List CB → Option BR
  | [.sl .u8 _, .sl .u8 _, .av (.one (.v (.int .i64 _))), .av (.one (.v (.int .i64 n)))] => some { pre := n = 0, val := .av (.one (.v (.slice none 0 0))) }
  | _ => none
def rtF : List CB → Option BR
  | [.sl .u8 p, .sl .u8 s, .av (.one (.v (.int .i64 r))), .av (.one (.v (.int .i64 n)))] => some { pre := 1 ≤ n ∧ n ≤ 1000 ∧ 1 ≤ r ∧ r ≤ 1000 ∧ p.length ≤ 800000 ∧ s.length ≤ 700000 ∧ isBs p ∧ isBs s, val := .av (.one (.r 0 0 n.toNat 0)), new := [⟨1, 5, [.arr .u8 (stO p s r.toNat ((n.toNat + 47) / 48))]⟩] }
  | _ => none
theorem rt_endsz [G384] (cbs : List CB) (r : BR) (hF : rtFz cbs = some r) (hp : r.pre) : EndsB Tryd.prog tyT [] fRt cbs r := by
  unfold rtFz at hF
  split at hF
  · rename_i p s r n
    injection hF with hF
    subst hF
    have hn : n = 0 := hp
    subst hn
    intro κ
    have h := (FromK.run (m0 := 0) tyT_ok rtO_ok mixed_ (rt_start κ p s r 0) trivial).trans (Reaches.roundsK 1 (Reaches.oneK (Reaches.runK tyT_ok rtO_ok mixed_ (rt_none p s r 0 0) ⟨tB_nlt.2 (by omega), ⟨by decide, by decide⟩, trivial⟩)))
    exact ⟨[.fin], _, .av (.one (.v (.slice none 0 0))), [], .inr rfl, h, by kernel_rfl, by kernel_rfl, by kernel_rfl⟩
  · cases hF
theorem rt_ends [G384] (cbs : List CB) (r : BR) (hF : rtF cbs = some r) (hp : r.pre) : EndsB Tryd.prog tyT [] fRt cbs r := by
  unfold rtF at hF
  split at hF
  · rename_i p s r n
    injection hF with hF
    subst hF
    obtain ⟨h1, h2, r1, r2, lp, ls, bp, bs⟩ : 1 ≤ n ∧ n ≤ 1000 ∧ 1 ≤ r ∧ r ≤ 1000 ∧ p.length ≤ 800000 ∧ s.length ≤ 700000 ∧ isBs p ∧ isBs s := hp
    obtain ⟨N, rfl⟩ : ∃ N : Nat, n = N := ⟨n.toNat, by omega⟩
    obtain ⟨R, rfl⟩ : ∃ R : Nat, r = R := ⟨r.toNat, by omega⟩
    intro κ
    have had : Reaches Tryd.prog 0 (toAt fRt 3 []) (rtS0 p s R N) (toAt fRt 3 []) (rtS p s [] R N 1 0) := Reaches.adoptK (m := 0) (es := [0, 1, 2]) (ks := [0, 1, 2, 3, 9, 10]) 5 .u8 (t := 9) (by kernel_rfl) (by kernel_rfl)
    have h := ((FromK.run (m0 := 0) tyT_ok rtO_ok mixed_ (rt_start κ p s R N) trivial).trans had).trans (Reaches.roundsK ((N + 47) / 48 + 1) (rt_all p s R N lp ls bp bs (by omega) (by omega) (by omega) (by omega) ((N + 47) / 48) 0 (by omega)))
    exact ⟨[.fin], _, .av (.one (.r 0 0 N 0)), [0], .inr rfl, h, by kernel_rfl, by kernel_rfl, by kernel_rfl⟩
  · cases hF
theorem rstretch_entz [G384] (sh : List ShB) (hs : sh.length = 4 := by rfl) : EntOK Tryd.prog 34 (entB sh rtFz) :=
  ok_B tyT_ok Tryd.func34 (by kernel_rfl) (by kernel_rfl) [] (fun x hx => by cases hx) (by rw [hs]; kernel_rfl) rt_endsz
theorem rstretch_ent [G384] (sh : List ShB) (hs : sh.length = 4 := by rfl) : EntOK Tryd.prog 34 (entB sh rtF) :=
  ok_B tyT_ok Tryd.func34 (by kernel_rfl) (by kernel_rfl) [] (fun x hx => by cases hx) (by rw [hs]; kernel_rfl) rt_ends
end
end Go.Proofs.YtmhmfmnjdbehcaaDoor.Am
/- Law 03's Stretches. Conditions: none. -/
namespace Go.Proofs.YtmhmfmnjdbehcaaDoor.Am
set_option linter.unusedVariables false
set_option linter.unusedSimpArgs false
open Go Go.RowKit
set_option linter.unusedSectionVars false
section
variable [GT] [GRnd]
noncomputable abbrev fLS : Func := Tryd.f12
noncomputable def lsOb : List (Nat × Ent) := [(27, eAwake3), (33, entB [.sl .u8, .sl .u8, .av, .av] sxFb), (34, entB [.sl .u8, .sl .u8, .av, .av] rtFz)]
theorem lsOb_ok [G384] : OOK Tryd.prog lsOb := ook_of (l := [(27, eAwake3), (33, entB [.sl .u8, .sl .u8, .av, .av] sxFb), (34, entB [.sl .u8, .sl .u8, .av, .av] rtFz)]) ⟨awake3_ent, stretch_entb _, rstretch_entz _, trivial⟩
noncomputable def lsOz : List (Nat × Ent) := [(27, eAwake3), (33, entB [.sl .u8, .sl .u8, .av, .av] sxFz), (34, entB [.sl .u8, .sl .u8, .av, .av] rtFz)]
theorem lsOz_ok [G384] : OOK Tryd.prog lsOz := ook_of (l := [(27, eAwake3), (33, entB [.sl .u8, .sl .u8, .av, .av] sxFz), (34, entB [.sl .u8, .sl .u8, .av, .av] rtFz)]) ⟨awake3_ent, stretch_entz _, rstretch_entz _, trivial⟩
noncomputable def lsO : List (Nat × Ent) := [(27, eAwake3), (33, entB [.sl .u8, .sl .u8, .av, .av] sxF), (34, entB [.sl .u8, .sl .u8, .av, .av] rtF)]
theorem lsO_ok [G384] : OOK Tryd.prog lsO := ook_of (l := [(27, eAwake3), (33, entB [.sl .u8, .sl .u8, .av, .av] sxF), (34, entB [.sl .u8, .sl .u8, .av, .av] rtF)]) ⟨awake3_ent, stretch_ent _, rstretch_ent _, trivial⟩
def lsA (p s : List Int) (r n : Int) (cp cs : Nat) : List SV := [.av (.one (.s 0 0 p.length cp)), .av (.one (.s 1 0 s.length cs)), .av (.agg [.v (.int .i64 r), .v (.int .i64 n)])]
def l2P (p s : List Int) : List (Nat × Blk) := [(0, ⟨2, 0, [.arr .u8 p]⟩), (1, ⟨2, 0, [.arr .u8 s]⟩)]
def lsE (p s : List Int) : St := { tm := tmL 86 [(6, ofV (.bool true))], hp := l2P p s, nx := 2, gl := [] }
theorem ls_long0 (p s : List Int) (r n : Int) (cp cs : Nat) : runF tyT lsOb (atH 1 7 (isB true) noH) [] 2 [] [6] fLS (lsA p s r n cp cs) (l2P p s) 2 [] = some ([.fin], lsE p s, [0 + 48 ≤ (List.replicate 48 (0 : Int)).length ∧ 48 ≤ 48, 1 ≤ 1, (cutI (List.replicate 48 (0 : Int)) 0 48).length ≤ 800000 ∧ (cutI [(107 : Int)] 0 1).length ≤ 800000, 1 ≤ 1, (cutI [(107 : Int)] 0 1).length ≤ 800000, tB (decide ((p.length : Int) > 200)) true, 0 + 48 ≤ (List.replicate 48 (0 : Int)).length ∧ 48 ≤ 48, 1 ≤ 1, (cutI (List.replicate 48 (0 : Int)) 0 48).length ≤ 800000 ∧ (cutI [(107 : Int)] 0 1).length ≤ 800000, 1 ≤ 1, (cutI [(107 : Int)] 0 1).length ≤ 800000]) := by kernel_rfl
theorem ls_long1 (p s : List Int) (r n : Int) (cp cs : Nat) : runF tyT lsOb (atH 1 7 (isB false) (atH 1 11 (isB true) noH)) [] 2 [] [6] fLS (lsA p s r n cp cs) (l2P p s) 2 [] = some ([.fin], lsE p s, [0 + 48 ≤ (List.replicate 48 (0 : Int)).length ∧ 48 ≤ 48, 1 ≤ 1, (cutI (List.replicate 48 (0 : Int)) 0 48).length ≤ 800000 ∧ (cutI [(107 : Int)] 0 1).length ≤ 800000, 1 ≤ 1, (cutI [(107 : Int)] 0 1).length ≤ 800000, tB (decide ((p.length : Int) > 200)) false, tB (decide ((s.length : Int) > 100)) true, 0 + 48 ≤ (List.replicate 48 (0 : Int)).length ∧ 48 ≤ 48, 1 ≤ 1, (cutI (List.replicate 48 (0 : Int)) 0 48).length ≤ 800000 ∧ (cutI [(107 : Int)] 0 1).length ≤ 800000, 1 ≤ 1, (cutI [(107 : Int)] 0 1).length ≤ 800000]) := by kernel_rfl
theorem ls_bad0 (p s : List Int) (r n : Int) (cp cs : Nat) : runF tyT lsOb (atH 1 7 (isB false) (atH 1 11 (isB false) (atH 4 2 (isB true) noH))) [] 2 [] [6] fLS (lsA p s r n cp cs) (l2P p s) 2 [] = some ([.fin], lsE p s, [0 + 48 ≤ (List.replicate 48 (0 : Int)).length ∧ 48 ≤ 48, 1 ≤ 1, (cutI (List.replicate 48 (0 : Int)) 0 48).length ≤ 800000 ∧ (cutI [(107 : Int)] 0 1).length ≤ 800000, 1 ≤ 1, (cutI [(107 : Int)] 0 1).length ≤ 800000, tB (decide ((p.length : Int) > 200)) false, tB (decide ((s.length : Int) > 100)) false, tB (decide (r < 1)) true, 0 + p.length ≤ p.length ∧ p.length ≤ cp, 0 + s.length ≤ s.length ∧ s.length ≤ cs, r < 1 ∨ 1000 < r ∨ n < 0 ∨ 1000 < n]) := by kernel_rfl
theorem ls_bad1 (p s : List Int) (r n : Int) (cp cs : Nat) : runF tyT lsOb (atH 1 7 (isB false) (atH 1 11 (isB false) (atH 4 2 (isB false) (atH 4 6 (isB true) noH)))) [] 2 [] [6] fLS (lsA p s r n cp cs) (l2P p s) 2 [] = some ([.fin], lsE p s, [0 + 48 ≤ (List.replicate 48 (0 : Int)).length ∧ 48 ≤ 48, 1 ≤ 1, (cutI (List.replicate 48 (0 : Int)) 0 48).length ≤ 800000 ∧ (cutI [(107 : Int)] 0 1).length ≤ 800000, 1 ≤ 1, (cutI [(107 : Int)] 0 1).length ≤ 800000, tB (decide ((p.length : Int) > 200)) false, tB (decide ((s.length : Int) > 100)) false, tB (decide (r < 1)) false, tB (decide (r > 1000)) true, 0 + p.length ≤ p.length ∧ p.length ≤ cp, 0 + s.length ≤ s.length ∧ s.length ≤ cs, r < 1 ∨ 1000 < r ∨ n < 0 ∨ 1000 < n]) := by kernel_rfl
theorem ls_bad2 (p s : List Int) (r n : Int) (cp cs : Nat) : runF tyT lsOb (atH 1 7 (isB false) (atH 1 11 (isB false) (atH 4 2 (isB false) (atH 4 6 (isB false) (atH 4 10 (isB true) noH))))) [] 2 [] [6] fLS (lsA p s r n cp cs) (l2P p s) 2 [] = some ([.fin], lsE p s, [0 + 48 ≤ (List.replicate 48 (0 : Int)).length ∧ 48 ≤ 48, 1 ≤ 1, (cutI (List.replicate 48 (0 : Int)) 0 48).length ≤ 800000 ∧ (cutI [(107 : Int)] 0 1).length ≤ 800000, 1 ≤ 1, (cutI [(107 : Int)] 0 1).length ≤ 800000, tB (decide ((p.length : Int) > 200)) false, tB (decide ((s.length : Int) > 100)) false, tB (decide (r < 1)) false, tB (decide (r > 1000)) false, tB (decide (n < 0)) true, 0 + p.length ≤ p.length ∧ p.length ≤ cp, 0 + s.length ≤ s.length ∧ s.length ≤ cs, r < 1 ∨ 1000 < r ∨ n < 0 ∨ 1000 < n]) := by kernel_rfl
theorem ls_bad3 (p s : List Int) (r n : Int) (cp cs : Nat) : runF tyT lsOb (atH 1 7 (isB false) (atH 1 11 (isB false) (atH 4 2 (isB false) (atH 4 6 (isB false) (atH 4 10 (isB false) (atH 4 13 (isB true) noH)))))) [] 2 [] [6] fLS (lsA p s r n cp cs) (l2P p s) 2 [] = some ([.fin], lsE p s, [0 + 48 ≤ (List.replicate 48 (0 : Int)).length ∧ 48 ≤ 48, 1 ≤ 1, (cutI (List.replicate 48 (0 : Int)) 0 48).length ≤ 800000 ∧ (cutI [(107 : Int)] 0 1).length ≤ 800000, 1 ≤ 1, (cutI [(107 : Int)] 0 1).length ≤ 800000, tB (decide ((p.length : Int) > 200)) false, tB (decide ((s.length : Int) > 100)) false, tB (decide (r < 1)) false, tB (decide (r > 1000)) false, tB (decide (n < 0)) false, tB (decide (n > 1000)) true, 0 + p.length ≤ p.length ∧ p.length ≤ cp, 0 + s.length ≤ s.length ∧ s.length ≤ cs, r < 1 ∨ 1000 < r ∨ n < 0 ∨ 1000 < n]) := by kernel_rfl
theorem ls_many (p s : List Int) (r n : Int) (cp cs : Nat) : runF tyT lsOb (atH 1 7 (isB false) (atH 1 11 (isB false) (atH 4 2 (isB false) (atH 4 6 (isB false) (atH 4 10 (isB false) (atH 4 13 (isB false) (atH 7 2 (isB true) noH))))))) [] 2 [] [6] fLS (lsA p s r n cp cs) (l2P p s) 2 [] = some ([.fin], lsE p s, [0 + 48 ≤ (List.replicate 48 (0 : Int)).length ∧ 48 ≤ 48, 1 ≤ 1, (cutI (List.replicate 48 (0 : Int)) 0 48).length ≤ 800000 ∧ (cutI [(107 : Int)] 0 1).length ≤ 800000, 1 ≤ 1, (cutI [(107 : Int)] 0 1).length ≤ 800000, tB (decide ((p.length : Int) > 200)) false, tB (decide ((s.length : Int) > 100)) false, tB (decide (r < 1)) false, tB (decide (r > 1000)) false, tB (decide (n < 0)) false, tB (decide (n > 1000)) false, tB (decide (r > 8)) true]) := by kernel_rfl
theorem ls_much (p s : List Int) (r n : Int) (cp cs : Nat) : runF tyT lsOb (atH 1 7 (isB false) (atH 1 11 (isB false) (atH 4 2 (isB false) (atH 4 6 (isB false) (atH 4 10 (isB false) (atH 4 13 (isB false) (atH 7 2 (isB false) (atH 7 5 (isB true) noH)))))))) [] 2 [] [6] fLS (lsA p s r n cp cs) (l2P p s) 2 [] = some ([.fin], lsE p s, [0 + 48 ≤ (List.replicate 48 (0 : Int)).length ∧ 48 ≤ 48, 1 ≤ 1, (cutI (List.replicate 48 (0 : Int)) 0 48).length ≤ 800000 ∧ (cutI [(107 : Int)] 0 1).length ≤ 800000, 1 ≤ 1, (cutI [(107 : Int)] 0 1).length ≤ 800000, tB (decide ((p.length : Int) > 200)) false, tB (decide ((s.length : Int) > 100)) false, tB (decide (r < 1)) false, tB (decide (r > 1000)) false, tB (decide (n < 0)) false, tB (decide (n > 1000)) false, tB (decide (r > 8)) false, tB (decide (n > 100)) true]) := by kernel_rfl
theorem ls_nil (p s : List Int) (r n : Int) (cp cs : Nat) : runF tyT lsOz (atH 1 7 (isB false) (atH 1 11 (isB false) (atH 4 2 (isB false) (atH 4 6 (isB false) (atH 4 10 (isB false) (atH 4 13 (isB false) (atH 7 2 (isB false) (atH 7 5 (isB false) noH)))))))) [] 2 [] [6] fLS (lsA p s r n cp cs) (l2P p s) 2 [] = some ([.fin], lsE p s, [0 + 48 ≤ (List.replicate 48 (0 : Int)).length ∧ 48 ≤ 48, 1 ≤ 1, (cutI (List.replicate 48 (0 : Int)) 0 48).length ≤ 800000 ∧ (cutI [(107 : Int)] 0 1).length ≤ 800000, 1 ≤ 1, (cutI [(107 : Int)] 0 1).length ≤ 800000, tB (decide ((p.length : Int) > 200)) false, tB (decide ((s.length : Int) > 100)) false, tB (decide (r < 1)) false, tB (decide (r > 1000)) false, tB (decide (n < 0)) false, tB (decide (n > 1000)) false, tB (decide (r > 8)) false, tB (decide (n > 100)) false, 0 + p.length ≤ p.length ∧ p.length ≤ cp, 0 + s.length ≤ s.length ∧ s.length ≤ cs, n = 0 ∧ 1 ≤ r ∧ r ≤ 1000, 0 + p.length ≤ p.length ∧ p.length ≤ cp, 0 + s.length ≤ s.length ∧ s.length ≤ cs, n = 0]) := by kernel_rfl
theorem ls_some (p s : List Int) (r n : Int) (cp cs : Nat) : runF tyT lsO (atH 1 7 (isB false) (atH 1 11 (isB false) (atH 4 2 (isB false) (atH 4 6 (isB false) (atH 4 10 (isB false) (atH 4 13 (isB false) (atH 7 2 (isB false) (atH 7 5 (isB false) (atH 10 4 symH (atH 10 10 symH (atH 10 11 (isB true) noH))))))))))) [] 2 [] [6] fLS (lsA p s r n cp cs) (l2P p s) 2 [] = some ([.fin], lsE p s, [0 + 48 ≤ (List.replicate 48 (0 : Int)).length ∧ 48 ≤ 48, 1 ≤ 1, (cutI (List.replicate 48 (0 : Int)) 0 48).length ≤ 800000 ∧ (cutI [(107 : Int)] 0 1).length ≤ 800000, 1 ≤ 1, (cutI [(107 : Int)] 0 1).length ≤ 800000, tB (decide ((p.length : Int) > 200)) false, tB (decide ((s.length : Int) > 100)) false, tB (decide (r < 1)) false, tB (decide (r > 1000)) false, tB (decide (n < 0)) false, tB (decide (n > 1000)) false, tB (decide (r > 8)) false, tB (decide (n > 100)) false, 0 + p.length ≤ p.length ∧ p.length ≤ cp, 0 + s.length ≤ s.length ∧ s.length ≤ cs, 1 ≤ n ∧ n ≤ 1000 ∧ 1 ≤ r ∧ r ≤ 1000 ∧ (cutI p 0 p.length).length ≤ 800000 ∧ (cutI s 0 s.length).length ≤ 700000, 0 + n.toNat ≤ widths [Seg.arr .u8 (stO (cutI p 0 p.length) (cutI s 0 s.length) r.toNat ((n.toNat + 47) / 48))], 0 + p.length ≤ p.length ∧ p.length ≤ cp, 0 + s.length ≤ s.length ∧ s.length ≤ cs, 1 ≤ n ∧ n ≤ 1000 ∧ 1 ≤ r ∧ r ≤ 1000 ∧ (cutI p 0 p.length).length ≤ 800000 ∧ (cutI s 0 s.length).length ≤ 700000 ∧ isBs (cutI p 0 p.length) ∧ isBs (cutI s 0 s.length), 0 + n.toNat ≤ widths [Seg.arr .u8 (stO (cutI p 0 p.length) (cutI s 0 s.length) r.toNat ((n.toNat + 47) / 48))], tB ((strOf (List.take n.toNat (List.drop 0 (stO (cutI p 0 p.length) (cutI s 0 s.length) r.toNat ((n.toNat + 47) / 48))) ++ [])).toList == (strOf (List.take n.toNat (List.drop 0 (stO (cutI p 0 p.length) (cutI s 0 s.length) r.toNat ((n.toNat + 47) / 48))) ++ [])).toList) true]) := by kernel_rfl
theorem ls_ok [G384] (p s : List Int) (r n : Int) (cp cs : Nat) (lp : p.length ≤ cp) (ls : s.length ≤ cs) (bp : isBs p) (bs : isBs s) : From Tryd.prog fLS (lsA p s r n cp cs) (l2P p s) 2 [] [.fin] (lsE p s) := by
  by_cases h1 : p.length ≤ 200
  · by_cases h2 : s.length ≤ 100
    · by_cases c0 : r < 1
      · exact From.run tyT_ok lsOb_ok mixed_ (ls_bad0 p s r n cp cs) ⟨⟨by decide, by decide⟩, by decide, ⟨by decide, by decide⟩, by decide, by decide, tB_ngt.2 (by omega), tB_ngt.2 (by omega), tB_lt.2 (by omega), by omega, by omega, by omega, trivial⟩
      · by_cases c1 : 1000 < r
        · exact From.run tyT_ok lsOb_ok mixed_ (ls_bad1 p s r n cp cs) ⟨⟨by decide, by decide⟩, by decide, ⟨by decide, by decide⟩, by decide, by decide, tB_ngt.2 (by omega), tB_ngt.2 (by omega), tB_nlt.2 (by omega), tB_gt.2 (by omega), by omega, by omega, by omega, trivial⟩
        · by_cases c2 : n < 0
          · exact From.run tyT_ok lsOb_ok mixed_ (ls_bad2 p s r n cp cs) ⟨⟨by decide, by decide⟩, by decide, ⟨by decide, by decide⟩, by decide, by decide, tB_ngt.2 (by omega), tB_ngt.2 (by omega), tB_nlt.2 (by omega), tB_ngt.2 (by omega), tB_lt.2 (by omega), by omega, by omega, by omega, trivial⟩
          · by_cases c3 : 1000 < n
            · exact From.run tyT_ok lsOb_ok mixed_ (ls_bad3 p s r n cp cs) ⟨⟨by decide, by decide⟩, by decide, ⟨by decide, by decide⟩, by decide, by decide, tB_ngt.2 (by omega), tB_ngt.2 (by omega), tB_nlt.2 (by omega), tB_ngt.2 (by omega), tB_nlt.2 (by omega), tB_gt.2 (by omega), by omega, by omega, by omega, trivial⟩
            · by_cases c4 : 8 < r
              · exact From.run tyT_ok lsOb_ok mixed_ (ls_many p s r n cp cs) ⟨⟨by decide, by decide⟩, by decide, ⟨by decide, by decide⟩, by decide, by decide, tB_ngt.2 (by omega), tB_ngt.2 (by omega), tB_nlt.2 (by omega), tB_ngt.2 (by omega), tB_nlt.2 (by omega), tB_ngt.2 (by omega), tB_gt.2 (by omega), trivial⟩
              · by_cases c5 : 100 < n
                · exact From.run tyT_ok lsOb_ok mixed_ (ls_much p s r n cp cs) ⟨⟨by decide, by decide⟩, by decide, ⟨by decide, by decide⟩, by decide, by decide, tB_ngt.2 (by omega), tB_ngt.2 (by omega), tB_nlt.2 (by omega), tB_ngt.2 (by omega), tB_nlt.2 (by omega), tB_ngt.2 (by omega), tB_ngt.2 (by omega), tB_gt.2 (by omega), trivial⟩
                · by_cases c6 : n = 0
                  · exact From.run tyT_ok lsOz_ok mixed_ (ls_nil p s r n cp cs) ⟨⟨by decide, by decide⟩, by decide, ⟨by decide, by decide⟩, by decide, by decide, tB_ngt.2 (by omega), tB_ngt.2 (by omega), tB_nlt.2 (by omega), tB_ngt.2 (by omega), tB_nlt.2 (by omega), tB_ngt.2 (by omega), tB_ngt.2 (by omega), tB_ngt.2 (by omega), by omega, by omega, by omega, by omega, by omega, c6, trivial⟩
                  · have hrun := ls_some p s r n cp cs
                    simp only [cutI_all, widths_o, stO_len] at hrun
                    refine From.run tyT_ok lsO_ok mixed_ hrun ⟨⟨by decide, by decide⟩, by decide, ⟨by decide, by decide⟩, by decide, by decide, tB_ngt.2 (by omega), tB_ngt.2 (by omega), tB_nlt.2 (by omega), tB_ngt.2 (by omega), tB_nlt.2 (by omega), tB_ngt.2 (by omega), tB_ngt.2 (by omega), tB_ngt.2 (by omega), by omega, by omega, by omega, by omega, by omega, by omega, ⟨by omega, by omega, by omega, by omega, by omega, by omega, bp, bs⟩, by omega, ?_, trivial⟩
                    exact tB_iff.2 (beq_self_eq_true _)
    · exact From.run tyT_ok lsOb_ok mixed_ (ls_long1 p s r n cp cs) ⟨⟨by decide, by decide⟩, by decide, ⟨by decide, by decide⟩, by decide, by decide, tB_ngt.2 (by omega), tB_gt.2 (by omega), ⟨by decide, by decide⟩, by decide, ⟨by decide, by decide⟩, by decide, by decide, trivial⟩
  · exact From.run tyT_ok lsOb_ok mixed_ (ls_long0 p s r n cp cs) ⟨⟨by decide, by decide⟩, by decide, ⟨by decide, by decide⟩, by decide, by decide, tB_gt.2 (by omega), ⟨by decide, by decide⟩, by decide, ⟨by decide, by decide⟩, by decide, by decide, trivial⟩
theorem lawMacStretches_fact [G384] (p s x : List Int) (lx : x.length = 2) (pp ps : Option Addr) (cp cs : Nat) {W : World} (hgw : GWok W.heap.size [] W) (rp : RowAt W ⟨pp, cp⟩ .u8 p ∧ ∀ z ∈ p, (Lit.int .u8 z).wf = true) (rs : RowAt W ⟨ps, cs⟩ .u8 s ∧ ∀ z ∈ s, (Lit.int .u8 z).wf = true) : Calls Tryd.prog 12 #[.slice pp p.length cp, .slice ps s.length cs, .agg (x.map (Value.int .i64)).toArray] W fun e w' => e = .returned (.bool true) ∧ Below W.heap.size W w' := by
  have hG := hr_rows [(⟨pp, cp⟩, .u8, p), (⟨ps, cs⟩, .u8, s)] (fun x hx => by
    simp only [List.mem_cons, List.not_mem_nil, or_false] at hx
    rcases hx with rfl | rfl
    · exact rp.1
    · exact rs.1) hgw
  match x, lx with
  | [r, n], _ =>
    have hR := ls_ok p s r n cp cs rp.1.1 rs.1.1 (wf_isBs rp.2) (wf_isBs rs.2)
    have := law_reach Tryd.func12 hR (.inr rfl) (by kernel_rfl) (by kernel_rfl) (by kernel_rfl) hG
    simp only [lsA, List.map_cons, List.map_nil, conc_s0] at this
    exact this
end
end Go.Proofs.YtmhmfmnjdbehcaaDoor.Am
/- Law 03's Keys. Conditions: none. -/
namespace Go.Proofs.YtmhmfmnjdbehcaaDoor.Am
set_option linter.unusedVariables false
set_option linter.unusedSimpArgs false
open Go Go.RowKit
set_option linter.unusedSectionVars false
section
variable [GT] [GRnd]
noncomputable abbrev fLK : Func := Tryd.f9
noncomputable def lkO : List (Nat × Ent) := [(27, eAwake3), (30, entB [.sl .u8, .rs [.sl .u8]] msF1), (22, entB [.sl .u8] srF)]
theorem lkO_ok [G384] : OOK Tryd.prog lkO := ook_of (l := [(27, eAwake3), (30, entB [.sl .u8, .rs [.sl .u8]] msF1), (22, entB [.sl .u8] srF)]) ⟨awake3_ent, msum_ent1 _, Short_ent _, trivial⟩
def lkA (p s : List Int) (n : Int) (cp cs : Nat) : List SV := [.av (.one (.s 0 0 p.length cp)), .av (.one (.s 1 0 s.length cs)), .av (.one (.v (.int .u8 n)))]
def lkE (p s : List Int) : St := { tm := tmL 61 [(6, ofV (.bool true))], hp := l2P p s, nx := 2, gl := [] }
theorem lk_long0 (p s : List Int) (n r cp cs : Nat) : runF tyT lkO (atH 1 7 (isB true) noH) [] 2 [] [6] fLK (lkA p s n cp cs) (l2P p s) 2 [] = some ([.fin], lkE p s, [0 + 48 ≤ (List.replicate 48 (0 : Int)).length ∧ 48 ≤ 48, 1 ≤ 1, (cutI (List.replicate 48 (0 : Int)) 0 48).length ≤ 800000 ∧ (cutI [(107 : Int)] 0 1).length ≤ 800000, 1 ≤ 1, (cutI [(107 : Int)] 0 1).length ≤ 800000, tB (decide ((p.length : Int) > 300)) true, 0 + 48 ≤ (List.replicate 48 (0 : Int)).length ∧ 48 ≤ 48, 1 ≤ 1, (cutI (List.replicate 48 (0 : Int)) 0 48).length ≤ 800000 ∧ (cutI [(107 : Int)] 0 1).length ≤ 800000, 1 ≤ 1, (cutI [(107 : Int)] 0 1).length ≤ 800000]) := by kernel_rfl
theorem lk_long1 (p s : List Int) (n r cp cs : Nat) : runF tyT lkO (atH 1 7 (isB false) (atH 1 11 (isB true) noH)) [] 2 [] [6] fLK (lkA p s n cp cs) (l2P p s) 2 [] = some ([.fin], lkE p s, [0 + 48 ≤ (List.replicate 48 (0 : Int)).length ∧ 48 ≤ 48, 1 ≤ 1, (cutI (List.replicate 48 (0 : Int)) 0 48).length ≤ 800000 ∧ (cutI [(107 : Int)] 0 1).length ≤ 800000, 1 ≤ 1, (cutI [(107 : Int)] 0 1).length ≤ 800000, tB (decide ((p.length : Int) > 300)) false, tB (decide ((s.length : Int) > 200)) true, 0 + 48 ≤ (List.replicate 48 (0 : Int)).length ∧ 48 ≤ 48, 1 ≤ 1, (cutI (List.replicate 48 (0 : Int)) 0 48).length ≤ 800000 ∧ (cutI [(107 : Int)] 0 1).length ≤ 800000, 1 ≤ 1, (cutI [(107 : Int)] 0 1).length ≤ 800000]) := by kernel_rfl
theorem lk_big (p s : List Int) (n r cp cs : Nat) : runF tyT lkO (atH 1 7 (isB false) (atH 1 11 (isB false) (atH 4 2 (isB true) (atH 5 1 symH (atH 5 7 symH (atH 5 8 (isB true) noH)))))) [] 2 [] [6] fLK (lkA p s n cp cs) (l2P p s) 2 [] = some ([.fin], lkE p s, [0 + 48 ≤ (List.replicate 48 (0 : Int)).length ∧ 48 ≤ 48, 1 ≤ 1, (cutI (List.replicate 48 (0 : Int)) 0 48).length ≤ 800000 ∧ (cutI [(107 : Int)] 0 1).length ≤ 800000, 1 ≤ 1, (cutI [(107 : Int)] 0 1).length ≤ 800000, tB (decide ((p.length : Int) > 300)) false, tB (decide ((s.length : Int) > 200)) false, 0 + p.length ≤ p.length ∧ p.length ≤ cp, 0 + s.length ≤ s.length ∧ s.length ≤ cs, (cutI p 0 p.length).length ≤ 800000 ∧ (cutI s 0 s.length).length ≤ 800000, tB (decide ((p.length : Int) > 128)) true, 48 ≤ widths [Seg.arr .u8 (macL (cutI p 0 p.length) (cutI s 0 s.length))], 0 + p.length ≤ p.length ∧ p.length ≤ cp, isBs (cutI p 0 p.length) ∧ (cutI p 0 p.length).length ≤ 900000, 48 ≤ (shS (cutI p 0 p.length)).length, 0 + s.length ≤ s.length ∧ s.length ≤ cs, (cutI (shS (cutI p 0 p.length)) 0 48).length ≤ 800000 ∧ (cutI s 0 s.length).length ≤ 800000, 48 ≤ widths [Seg.arr .u8 (macL (cutI (shS (cutI p 0 p.length)) 0 48) (cutI s 0 s.length))], tB ((strOf (List.take 48 (List.drop 0 (macL (cutI p 0 p.length) (cutI s 0 s.length))) ++ [])).toList == (strOf (List.take 48 (List.drop 0 (macL (cutI (shS (cutI p 0 p.length)) 0 48) (cutI s 0 s.length))) ++ [])).toList) true]) := by kernel_rfl
theorem lk_small (p s : List Int) (n r cp cs : Nat) : runF tyT lkO (atH 1 7 (isB false) (atH 1 11 (isB false) (atH 4 2 (isB false) (atH 6 2 symH (atH 6 7 (isI .i64 (129 - (p.length : Int))) (atH 6 8 { sym := true, is := some (ofV (.int .i64 (r : Int))) } (atH 6 9 symH (atH 7 1 symH (atH 7 6 symH (atH 7 7 (isB true) noH)))))))))) [] 2 [] [6] fLK (lkA p s n cp cs) (l2P p s) 2 [] = some ([.fin], lkE p s, [0 + 48 ≤ (List.replicate 48 (0 : Int)).length ∧ 48 ≤ 48, 1 ≤ 1, (cutI (List.replicate 48 (0 : Int)) 0 48).length ≤ 800000 ∧ (cutI [(107 : Int)] 0 1).length ≤ 800000, 1 ≤ 1, (cutI [(107 : Int)] 0 1).length ≤ 800000, tB (decide ((p.length : Int) > 300)) false, tB (decide ((s.length : Int) > 200)) false, 0 + p.length ≤ p.length ∧ p.length ≤ cp, 0 + s.length ≤ s.length ∧ s.length ≤ cs, (cutI p 0 p.length).length ≤ 800000 ∧ (cutI s 0 s.length).length ≤ 800000, tB (decide ((p.length : Int) > 128)) false, 0 = widths [] ∧ 0 = widths [], 0 + p.length ≤ widths [Seg.arr .u8 p], (0 + p.length) * 2 ≤ 140737488355328, tI .i64 (IntKind.wrap .i64 (129 - (p.length : Int))) (129 - (p.length : Int)), ¬ (129 - (p.length : Int)) = 0, tI .i64 (Int.tmod (IntKind.wrap .i64 (n : Int)) (129 - (p.length : Int))) (r : Int), 0 ≤ (r : Int) ∧ r ≤ okSize, 0 + p.length = widths [Seg.arr .u8 (List.take p.length p)], (widths [Seg.arr .u8 (List.take p.length p)] + r) * 2 ≤ 140737488355328, 48 ≤ widths [Seg.arr .u8 (macL (cutI p 0 p.length) (cutI s 0 s.length))], 0 + (widths [Seg.arr .u8 (List.take p.length p)] + r) ≤ ((List.take p.length p) ++ List.replicate r (0 : Int)).length, 0 + s.length ≤ s.length ∧ s.length ≤ cs, (cutI ((List.take p.length p) ++ List.replicate r 0) 0 (widths [Seg.arr .u8 (List.take p.length p)] + r)).length ≤ 800000 ∧ (cutI s 0 s.length).length ≤ 800000, 48 ≤ widths [Seg.arr .u8 (macL (cutI ((List.take p.length p) ++ List.replicate r 0) 0 (widths [Seg.arr .u8 (List.take p.length p)] + r)) (cutI s 0 s.length))], tB ((strOf (List.take 48 (List.drop 0 (macL (cutI p 0 p.length) (cutI s 0 s.length))) ++ [])).toList == (strOf (List.take 48 (List.drop 0 (macL (cutI ((List.take p.length p) ++ List.replicate r 0) 0 (widths [Seg.arr .u8 (List.take p.length p)] + r)) (cutI s 0 s.length))) ++ [])).toList) true]) := by kernel_rfl
theorem kN_short {k : List Int} (h : ¬ 128 < k.length) : kN k = k := by
  unfold kN
  rw [if_neg h]
theorem padL_kN (k : List Int) (c : Int) : padL (kN k) c = padL k c := by
  unfold padL
  have e : kN (kN k) = kN k := by
    by_cases h : 128 < k.length
    · have e1 : kN k = keyL 48 (g2 (shaL kStart384 k)) := by unfold kN; rw [if_pos h]
      have e2 : (kN k).length = 48 := by rw [e1, keyL_len]
      exact kN_short (by omega)
    · have e1 : kN k = k := by unfold kN; rw [if_neg h]
      rw [e1, e1]
  rw [e]
theorem macL_kN (k a : List Int) : macL (kN k) a = macL k a := by
  unfold macL
  rw [padL_kN, padL_kN]
theorem padL_zeros (k : List Int) (r : Nat) (h : k.length + r ≤ 128) (c : Int) : padL (k ++ List.replicate r 0) c = padL k c := by
  have e1 : kN k = k := by unfold kN; rw [if_neg (by omega)]
  have e2 : kN (k ++ List.replicate r 0) = k ++ List.replicate r 0 := by
    unfold kN
    rw [if_neg (by rw [List.length_append, List.length_replicate]; omega)]
  unfold padL
  rw [e1, e2]
  exact keyL_congr fun i _ => by rw [g2_pad]
theorem macL_zeros (k a : List Int) (r : Nat) (h : k.length + r ≤ 128) : macL (k ++ List.replicate r 0) a = macL k a := by
  unfold macL
  rw [padL_zeros k r h, padL_zeros k r h]
theorem lk_ok [G384] (p s : List Int) (n cp cs : Nat) (hn : n < 256) (lp : p.length ≤ cp) (ls : s.length ≤ cs) (bp : isBs p) : From Tryd.prog fLK (lkA p s n cp cs) (l2P p s) 2 [] [.fin] (lkE p s) := by
  have lm := macL_len p s
  by_cases h1 : p.length ≤ 300
  · by_cases h2 : s.length ≤ 200
    · by_cases h3 : 128 < p.length
      · have hrun := lk_big p s n 0 cp cs
        have ek : kN p = shS p := by unfold kN; rw [if_pos h3]; rfl
        have e48 : cutI (shS p) 0 48 = kN p := by rw [cut_full (shS_len p), ek]
        have lk : (kN p).length = 48 := by rw [ek, shS_len]
        simp only [cutI_all, e48, macL_kN] at hrun
        refine From.run tyT_ok lkO_ok mixed_ hrun ⟨⟨by decide, by decide⟩, by decide, ⟨by decide, by decide⟩, by decide, by decide, tB_ngt.2 (by omega), tB_ngt.2 (by omega), by omega, by omega, by omega, tB_gt.2 (by omega), ?_⟩
        simp only [allP_cons, allP_nil, and_true, true_and, tB_iff, widths_o, lm, bp, shS_len, lk, beq_self_eq_true]
        omega
      · obtain ⟨r, hr⟩ : ∃ r : Nat, r = n % (129 - p.length) := ⟨_, rfl⟩
        have hr2 : r ≤ 128 - p.length := by
          have := Nat.mod_lt n (show 0 < 129 - p.length by omega)
          omega
        have hrun := lk_small p s n r cp cs
        have ec : cutI (p ++ List.replicate r 0) 0 (p.length + r) = p ++ List.replicate r 0 := cut_full (by rw [List.length_append, List.length_replicate])
        simp only [cutI_all, List.take_length, widths_o, ec, macL_zeros p s r (by omega)] at hrun
        refine From.run tyT_ok lkO_ok mixed_ hrun ⟨⟨by decide, by decide⟩, by decide, ⟨by decide, by decide⟩, by decide, by decide, tB_ngt.2 (by omega), tB_ngt.2 (by omega), by omega, by omega, by omega, tB_ngt.2 (by omega), ?_⟩
        have e1 : Int.tmod (IntKind.wrap .i64 (n : Int)) (129 - (p.length : Int)) = (r : Int) := by
          rw [w64 (by omega) (by omega), Int.tmod_eq_emod_of_nonneg (by omega), hr]
          have : (129 - (p.length : Int)) = ((129 - p.length : Nat) : Int) := by omega
          rw [this]
          omega
        have ho : okSize = 140737488355328 := rfl
        simp only [allP_cons, allP_nil, and_true, true_and, tB_iff, tI_iff, wd0, widths_o, lm, beq_self_eq_true, e1, ho, List.length_append, List.length_replicate]
        rw [w64 (by omega) (by omega)]
        omega
    · exact From.run tyT_ok lkO_ok mixed_ (lk_long1 p s n 0 cp cs) ⟨⟨by decide, by decide⟩, by decide, ⟨by decide, by decide⟩, by decide, by decide, tB_ngt.2 (by omega), tB_gt.2 (by omega), ⟨by decide, by decide⟩, by decide, ⟨by decide, by decide⟩, by decide, by decide, trivial⟩
  · exact From.run tyT_ok lkO_ok mixed_ (lk_long0 p s n 0 cp cs) ⟨⟨by decide, by decide⟩, by decide, ⟨by decide, by decide⟩, by decide, by decide, tB_gt.2 (by omega), ⟨by decide, by decide⟩, by decide, ⟨by decide, by decide⟩, by decide, by decide, trivial⟩
theorem lawMacKeys_fact [G384] (p s : List Int) (n : Int) (wn : (Lit.int .u8 n).wf = true) (pp ps : Option Addr) (cp cs : Nat) {W : World} (hgw : GWok W.heap.size [] W) (rp : RowAt W ⟨pp, cp⟩ .u8 p ∧ ∀ z ∈ p, (Lit.int .u8 z).wf = true) (rs : RowAt W ⟨ps, cs⟩ .u8 s ∧ ∀ z ∈ s, (Lit.int .u8 z).wf = true) : Calls Tryd.prog 9 #[.slice pp p.length cp, .slice ps s.length cs, .int .u8 n] W fun e w' => e = .returned (.bool true) ∧ Below W.heap.size W w' := by
  have hG := hr_rows [(⟨pp, cp⟩, .u8, p), (⟨ps, cs⟩, .u8, s)] (fun x hx => by
    simp only [List.mem_cons, List.not_mem_nil, or_false] at hx
    rcases hx with rfl | rfl
    · exact rp.1
    · exact rs.1) hgw
  obtain ⟨h1, h2⟩ := wf_isB wn
  obtain ⟨a, rfl⟩ : ∃ a : Nat, n = a := ⟨n.toNat, by omega⟩
  have hR := lk_ok p s a cp cs (by omega) rp.1.1 rs.1.1 (wf_isBs rp.2)
  have := law_reach Tryd.func9 hR (.inr rfl) (by kernel_rfl) (by kernel_rfl) (by kernel_rfl) hG
  simp only [lkA, List.map_cons, List.map_nil, conc_s0] at this
  exact this
end
end Go.Proofs.YtmhmfmnjdbehcaaDoor.Am
/- What a listed table's cells are, at a law's call. Conditions: none. -/
namespace Go.Proofs.YtmhmfmnjdbehcaaDoor
set_option linter.unusedVariables false
set_option linter.unusedSimpArgs false
open Go
theorem laid_reads {P : Program} {w : World} : ∀ {l : List (String × DataW Unit)} {ps : List MemPlace}, DataW.LaidVars P w l ps → ∀ n d, (n, d) ∈ l →
    ∃ g t cs fuel p, P.globalNamed n = some g ∧ (P.globals[g]?).map (·.type) = some t ∧ w.var? P n = some cs ∧ DataW.trod (fun _ => ()) P w 0 (fun _ => true) false fuel t cs.toList = some (d, p)
  | [], _, _, _, _, hm => by cases hm
  | (n', d') :: r, ps, h, n, d, hm => by
    obtain ⟨g, t, cs, fuel, p, q, h1, h2, h3, h4, h5, _⟩ := h
    rcases List.mem_cons.1 hm with e | e
    · cases e
      exact ⟨g, t, cs, fuel, p, h1, h2, h3, h4⟩
    · exact laid_reads h5 n d e
/-- A listed table of integers stands in its block. -/
theorem laid_cells {W : World} {l : List (String × DataW Unit)} (h : laidMet Tryd.prog l W) {name : String} {g : Nat} {t e : TypeId} {n : Nat} {k : IntKind} {zs : List Int} (hm : (name, Lib.tabData k zs) ∈ l)
    (hg : Tryd.prog.globalNamed name = some g) (hty : (Tryd.prog.globals[g]?).map (·.type) = some t) (ht : Tryd.prog.underlying t = some (.array n e)) (he : Tryd.prog.underlying e = some (.int k)) (hce : Tryd.prog.cellsOf e = 1) (hct : Tryd.prog.cellsOf t = n) :
    g < W.heap.size ∧ g ∉ ([] : List Nat) ∧ ∃ cs ty mk, W.heap[g]? = some (.cells cs ty mk) ∧ cs.toList = zs.map (Value.int k) := by
  obtain ⟨_, hv, _⟩ := h
  obtain ⟨g', t', cs, fuel, p, h1, h2, h3, h4⟩ := laid_reads hv _ _ hm
  obtain rfl := Option.some.inj (hg.symm.trans h1)
  obtain rfl := Option.some.inj (hty.symm.trans h2)
  have hcs := Lib.cells_of_tab ht he hce hct h4
  unfold World.var? at h3
  rw [hg, Option.bind_some] at h3
  split at h3
  · rename_i cs' ty mk hh
    obtain rfl := Option.some.inj h3
    exact ⟨(Array.getElem?_eq_some_iff.1 hh).1, List.not_mem_nil, cs', ty, mk, hh, hcs⟩
  · cases h3
end Go.Proofs.YtmhmfmnjdbehcaaDoor
