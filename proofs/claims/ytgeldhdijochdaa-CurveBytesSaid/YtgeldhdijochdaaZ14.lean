/- Law 09's CurveBytes. Conditions: none. -/
import Derived.Test.YtgeldhdijochdaaZ12
import Derived.Test.YtgeldhdijochdaaZ13
import Derived.Test.YtgeldhdijochdaaZ1
import Derived.Test.YtgeldhdijochdaaRows
import Derived.WalkKit
import Derived.ProofKit
import Derived.OpenShut
import Derived.ChangeOld
import Derived.Below
import Derived.Test.YtgeldhdijochdaaZ10
import Derived.ChangeSlices
set_option linter.unusedSectionVars false
namespace Go.Proofs.Ytgeldhdijochdaa.Am
set_option linter.unusedVariables false
set_option linter.unusedSimpArgs false
open Go Go.RowKit
open Pl (pP T256)
set_option linter.unusedSectionVars false
open Pl (byteAt pL)
section
variable [GT]
noncomputable def mgO : List (Nat × Ent) := [(19, vEnt vnaught), (43, eLN 26 nSum)]
theorem mgO_ok : OOK Try.prog mgO := ook_of (l := [(19, vEnt vnaught), (43, eLN 26 nSum)]) ⟨naught_ent, Add_ent, trivial⟩
noncomputable abbrev fMg : Func := Try.f24
def isNau (x y : Nat) : Bool := numEq x 0 && (numEq y 1 && true)
theorem mg_y (x y : Nat) : wholeV tyT mgO (atH 1 2 (isB true) noH) [] 2000 fMg [.av (.agg [.num x, .num y])] = some (.av (.one (.num 0)), [tB (isNau x y) true]) := by kernel_rfl
theorem mg_n (x y : Nat) : wholeV tyT mgO (atH 1 2 (isB false) noH) [] 2000 fMg [.av (.agg [.num x, .num y])] = some (.av (.one (.num (nSum [1, y]))), [tB (isNau x y) false]) := by kernel_rfl
def nMo (x y : Nat) : Nat := match isNau x y with
  | true => 0
  | false => nSum [1, y]
def vmo : List SV → Option (SV × Asm)
  | [.av (.agg [.num x, .num y])] => some (.av (.one (.num (nMo x y))), .tt)
  | _ => none
theorem mo_ent : EntOK Try.prog 24 (vEnt vmo) := ok_V mgO_ok Try.func24 (by kernel_rfl) (by kernel_rfl) fun args v p hF hp => by
  unfold vmo at hF
  split at hF
  · rename_i x y
    simp only [Option.some.injEq, Prod.mk.injEq] at hF
    obtain ⟨rfl, rfl⟩ := hF
    unfold nMo
    cases h1 : isNau x y
    · exact ⟨_, _, _, _, mg_n x y, ⟨tB_iff.2 h1, trivial⟩, by kernel_rfl, by kernel_rfl, by kernel_rfl⟩
    · exact ⟨_, _, _, _, mg_y x y, ⟨tB_iff.2 h1, trivial⟩, by kernel_rfl, by kernel_rfl, by kernel_rfl⟩
  · cases hF
noncomputable def cbO : List (Nat × Ent) := [(10, vEnt vaw9), (11, ePick), (14, eBytesP), (15, entB [.sl .u8] rdF), (16, eBy), (12, eAddP), (17, vEnt vmont), (18, vEnt vsmall), (19, vEnt vnaught), (20, vEnt vbase), (21, e0N pL), (13, eTimes), (23, e2N nSub), (22, eLN 26 nPro), (24, vEnt vmo)]
theorem cbO_ok : OOK Try.prog cbO := ook_of (l := [(10, vEnt vaw9), (11, ePick), (14, eBytesP), (15, entB [.sl .u8] rdF), (16, eBy), (12, eAddP), (17, vEnt vmont), (18, vEnt vsmall), (19, vEnt vnaught), (20, vEnt vbase), (21, e0N pL), (13, eTimes), (23, e2N nSub), (22, eLN 26 nPro), (24, vEnt vmo)]) ⟨aw9_ent, pick_ent, eBytesP_ok, read_ent, by_ent, eAddP_ok, mont_ent, small8_ent, naught_ent, base_ent, Order_ent, times_ent, Sub_ent, Mul_ent, mo_ent, trivial⟩
noncomputable abbrev fCB : Func := Try.f5
theorem cb_run (bf : Nat → Int) : wholeV tyT cbO (atH 5 4 (isI .i64 0) (atH 10 4 (isB true) (atH 10 12 (isB true) (atH 10 20 (isB true) (atH 10 27 (isB true) (atH 10 32 (isB true) (atH 10 44 (isB true) noH))))))) [] 4000 fCB [.av (.one (.arr .u8 (keyL 32 bf)))] = some (ofV (.bool true), [is32 (keyL 32 bf), 0 + 32 ≤ (ptB (pkV (g2 (keyL 32 bf))).1 (pkV (g2 (keyL 32 bf))).2).length, is32 (cutI (ptB (pkV (g2 (keyL 32 bf))).1 (pkV (g2 (keyL 32 bf))).2) 0 32), tI .i64 (rdV (leI (cutI (ptB (pkV (g2 (keyL 32 bf))).1 (pkV (g2 (keyL 32 bf))).2) 0 32))).e 0, tB ((strOf ((ptB (pkV (g2 (keyL 32 bf))).1 (pkV (g2 (keyL 32 bf))).2) ++ [])).toList == (strOf (((byI (pkV (g2 (keyL 32 bf))).2).set 31 (IntKind.wrap .u8 ((byI (pkV (g2 (keyL 32 bf))).2).getD 31 0 + IntKind.wrap .u8 (IntKind.wrap .u8 (Int.tmod ((words (pkV (g2 (keyL 32 bf))).1).getD 0 0) 2) * 128)))) ++ [])).toList) true, tB (numEq ((rdV (leI (cutI (ptB (pkV (g2 (keyL 32 bf))).1 (pkV (g2 (keyL 32 bf))).2) 0 32))).x) ((pkV (g2 (keyL 32 bf))).1) && (numEq ((rdV (leI (cutI (ptB (pkV (g2 (keyL 32 bf))).1 (pkV (g2 (keyL 32 bf))).2) 0 32))).y) ((pkV (g2 (keyL 32 bf))).2) && true)) true, tB (nSmallP (pkV (g2 (keyL 32 bf))).1 (pkV (g2 (keyL 32 bf))).2 == (numEq (adX [((pkV (g2 (keyL 32 bf))).1, (pkV (g2 (keyL 32 bf))).2), ((pkV (g2 (keyL 32 bf))).1, (pkV (g2 (keyL 32 bf))).2), ((pkV (g2 (keyL 32 bf))).1, (pkV (g2 (keyL 32 bf))).2), ((pkV (g2 (keyL 32 bf))).1, (pkV (g2 (keyL 32 bf))).2), ((pkV (g2 (keyL 32 bf))).1, (pkV (g2 (keyL 32 bf))).2), ((pkV (g2 (keyL 32 bf))).1, (pkV (g2 (keyL 32 bf))).2), ((pkV (g2 (keyL 32 bf))).1, (pkV (g2 (keyL 32 bf))).2), ((pkV (g2 (keyL 32 bf))).1, (pkV (g2 (keyL 32 bf))).2)]) 0 && (numEq (adY [((pkV (g2 (keyL 32 bf))).1, (pkV (g2 (keyL 32 bf))).2), ((pkV (g2 (keyL 32 bf))).1, (pkV (g2 (keyL 32 bf))).2), ((pkV (g2 (keyL 32 bf))).1, (pkV (g2 (keyL 32 bf))).2), ((pkV (g2 (keyL 32 bf))).1, (pkV (g2 (keyL 32 bf))).2), ((pkV (g2 (keyL 32 bf))).1, (pkV (g2 (keyL 32 bf))).2), ((pkV (g2 (keyL 32 bf))).1, (pkV (g2 (keyL 32 bf))).2), ((pkV (g2 (keyL 32 bf))).1, (pkV (g2 (keyL 32 bf))).2), ((pkV (g2 (keyL 32 bf))).1, (pkV (g2 (keyL 32 bf))).2)]) 1 && true))) true, True, tB (numEq (tmX (nBx) (nBy) (pL)) (0) && (numEq (tmY (nBx) (nBy) (pL)) (1) && true)) true, tB (!nSmallP nBx nBy) true, tB (numEq (nPro [nPro [nSum [1, (pkV (g2 (keyL 32 bf))).2], nInv (nSub 1 (pkV (g2 (keyL 32 bf))).2)], nSub 1 (pkV (g2 (keyL 32 bf))).2]) (nMo (pkV (g2 (keyL 32 bf))).1 (pkV (g2 (keyL 32 bf))).2)) true]) := by kernel_rfl
theorem ptB_v (x y : Nat) (hy : y < T255) : byteAt y 31 < 128 ∧ (byI y).getD 31 0 = ((byteAt y 31 : Nat) : Int) := by
  have hT : T255 = 256 ^ 31 * 128 := by decide +kernel
  have hT2 : T256 = 2 * T255 := by decide +kernel
  constructor
  · unfold byteAt
    rw [hT] at hy
    have : y / 256 ^ 31 < 128 := Nat.div_lt_of_lt_mul hy
    omega
  · unfold byI
    rw [keyL_get 32 _ 31 (by decide), Nat.mod_eq_of_lt (by omega)]
theorem law_byte (x y : Nat) (hy : y < T255) : (byI y).set 31 (IntKind.wrap .u8 ((byI y).getD 31 0 + IntKind.wrap .u8 (IntKind.wrap .u8 (Int.tmod ((words x).getD 0 0) 2) * 128))) = ptB x y := by
  obtain ⟨h1, h2⟩ := ptB_v x y hy
  unfold ptB
  congr 1
  rw [h2]
  have hx : (words x).getD 0 0 = ((x % 18446744073709551616 : Nat) : Int) := by
    show word x 0 = _
    unfold word
    rw [Nat.pow_zero, Nat.div_one]
  have ha := iand_nat (x % 18446744073709551616) 1 (by omega) (by decide)
  rw [show ((1 : Nat) : Int) = 1 from rfl] at ha
  rw [hx, ha, Nat.and_one_is_mod, Int.tmod_eq_emod_of_nonneg (by omega)]
  have h4 := or128 (byteAt y 31) h1
  have h3 : x % 18446744073709551616 % 2 = 0 ∨ x % 18446744073709551616 % 2 = 1 := by omega
  rcases h3 with h3 | h3
  · rw [h3, show ((x % 18446744073709551616 : Nat) : Int) % 2 = 0 by omega]
    have e : ishl .u8 (IntKind.wrap .u8 ((0 : Nat) : Int)) 7 = 0 := by decide +kernel
    rw [e, h4.2]
    simp only [wB_def]
    omega
  · rw [h3, show ((x % 18446744073709551616 : Nat) : Int) % 2 = 1 by omega]
    have e : ishl .u8 (IntKind.wrap .u8 ((1 : Nat) : Int)) 7 = 128 := by decide +kernel
    rw [e, h4.1]
    simp only [wB_def]
    omega
theorem sum8 (P : EP) : sumP Pl.Pt.O [P, P, P, P, P, P, P, P] = Pl.Pt.mul 8 P := by
  rw [sumP_cons, sumP_cons, sumP_cons, sumP_cons, sumP_cons, sumP_cons, sumP_cons, sumP_cons, sumP_nil]
  rfl
theorem ad8 (P : EP) : adX [(P.x.val, P.y.val), (P.x.val, P.y.val), (P.x.val, P.y.val), (P.x.val, P.y.val), (P.x.val, P.y.val), (P.x.val, P.y.val), (P.x.val, P.y.val), (P.x.val, P.y.val)] = (Pl.Pt.mul 8 P).x.val ∧ adY [(P.x.val, P.y.val), (P.x.val, P.y.val), (P.x.val, P.y.val), (P.x.val, P.y.val), (P.x.val, P.y.val), (P.x.val, P.y.val), (P.x.val, P.y.val), (P.x.val, P.y.val)] = (Pl.Pt.mul 8 P).y.val := by
  have h := ad_point [P, P, P, P, P, P, P, P]
  rw [sum8] at h
  exact h
theorem isO_iff (P : EP) : isNau P.x.val P.y.val = true ↔ P = Pl.Pt.O := by
  unfold isNau
  rw [← val_one, ← val_zero, Bool.and_true, Bool.and_eq_true, numEq_val, numEq_val]
  exact ⟨fun h => Pl.Pt.ext h.1 h.2, fun h => by rw [h]; exact ⟨rfl, rfl⟩⟩
theorem small_iff (P : EP) : nSmallP P.x.val P.y.val = isNau (Pl.Pt.mul 8 P).x.val (Pl.Pt.mul 8 P).y.val := by
  have t := tmp P (n := 8) (by decide +kernel)
  unfold nSmallP isNau
  rw [t.1, t.2]
theorem mont_aux {R : Type} [Lean.Grind.CommRing R] (y i : R) (h : (1 - y) * i = 1) : (1 + y) * i * (1 - y) = 1 + y := by grind
theorem mont_zero {R : Type} [Lean.Grind.CommRing R] (y i : R) (h : y = 1) : (1 + y) * i * (1 - y) = 0 := by grind
theorem on_one {R : Type} [Lean.Grind.CommRing R] (d x : R) (h : (-1) * x * x + 1 * 1 = 1 + d * x * x * 1 * 1) : (d * (1 * 1) + 1) * (x * x) = 0 := by grind
theorem mo_val (P : EP) : nPro [nPro [nSum [1, P.y.val], nInv (nSub 1 P.y.val)], nSub 1 P.y.val] = nMo P.x.val P.y.val := by
  rw [← val_one, nSum_val2, nSub_val, nInv_val, nPro_val2, nPro_val2]
  unfold nMo
  cases h : isNau P.x.val P.y.val
  · have hne : ¬ P = Pl.Pt.O := fun e => by rw [(isO_iff P).2 e] at h; cases h
    have hy : (1 : Pl.F) - P.y ≠ 0 := fun e => hne (by
      have hy1 : P.y = 1 := (Pl.F_sub_zero e).symm
      have hon : (-1) * P.x * P.x + P.y * P.y = 1 + Pl.toF dN * P.x * P.x * P.y * P.y := P.on
      rw [hy1] at hon
      have h0 := Pl.F_mul_eq_zero (on_one _ _ hon)
      have hx := (h0.resolve_left (den_ne 1))
      exact Pl.Pt.ext ((Pl.F_mul_eq_zero hx).elim id id) hy1)
    have hi := Pl.F_mul_inv hy
    show _ = nSum [1, P.y.val]
    rw [← val_one, nSum_val2]
    exact congrArg Fin.val (mont_aux _ _ hi)
  · have e := (isO_iff P).1 h
    have hy : P.y = 1 := by rw [e]; rfl
    exact congrArg Fin.val (mont_zero P.y _ hy)
theorem lawCurveBytes_fact (bs : List Int) (hl : bs.length = 32) (hw : ∀ z ∈ bs, (Lit.int .u8 z).wf = true) (w : World) (hgw : GWok w.heap.size [] w) : Calls Try.prog 5 #[.agg (bs.map (Value.int .u8)).toArray] w fun e w' => e = .returned (.bool true) ∧ Below w.heap.size w w' := by
  have h32 : is32 bs := ⟨hl, wf_bs hw⟩
  obtain ⟨P, hP⟩ := pk_point (g2 bs) (g2_32 h32)
  have hrun := cb_run (g2 bs)
  rw [keyL_g2 hl, hP] at hrun
  simp only [vP] at hrun
  have hy : P.y.val < T255 := Nat.lt_trans P.y.isLt pP_255
  have cf : cutI (byI (ptN P)) 0 32 = byI (ptN P) := cut_full' (byI_32 _).1
  have el : leI (byI (ptN P)) = ptN P := by rw [leI_byI, Nat.mod_eq_of_lt (ptN_lt P)]
  rw [law_byte P.x.val P.y.val hy, ptB_point P, cf, el, rd_point P] at hrun
  have tL := tmp eB (n := pL) (by decide +kernel)
  have sB : nSmallP eB.x.val eB.y.val = false := by
    rw [small_iff]
    cases h : isNau (Pl.Pt.mul 8 eB).x.val (Pl.Pt.mul 8 eB).y.val
    · rfl
    · exact absurd ((isO_iff _).1 h) base_eight
  have sP := small_iff P
  simp only [nBx_val, nBy_val, tL, base_order, (ad8 P).1, (ad8 P).2, mo_val P] at hrun
  exact am_val tyT_ok cbO_ok mixed_ Try.func5 (by kernel_rfl) hrun ⟨h32, by rw [(byI_32 _).1]; decide, byI_32 _, tI_iff.2 rfl, tB_iff.2 (beq_self_eq_true _), eqP_self _ _, tB_iff.2 (by rw [sP]; exact beq_self_eq_true _), trivial, tB_iff.2 (by
    have := (isO_iff (Pl.Pt.O : EP)).2 rfl
    exact this), tB_iff.2 (by rw [sB]; rfl), tB_iff.2 (numEq_self _), trivial⟩ (by kernel_rfl) (by kernel_rfl) (fun _ => ⟨none, 0⟩) w hgw
end
end Go.Proofs.Ytgeldhdijochdaa.Am
/- No variable of the package is known: none is read. Conditions: none. -/
namespace Go.Proofs.Ytgeldhdijochdaa.Am
set_option linter.unusedVariables false
set_option linter.unusedSimpArgs false
open Go
instance gt0 : GT := ⟨[]⟩
theorem gw0 {N : Nat} {M : List Nat} {w : World} : GWok N M w := fun x h => by cases h
end Go.Proofs.Ytgeldhdijochdaa.Am
/- Opening arrays of bytes, and rows of them, at a law's call. Conditions: none. -/
set_option maxRecDepth 100000
namespace Go.Proofs.Ytgeldhdijochdaa
set_option linter.unusedVariables false
set_option linter.unusedSimpArgs false
open Go Go.ChangeShapes Go.WideShapes Go.ChangeAt Go.RowKit

theorem own_ : ownKnob Try.prog.godebug = none := by kernel_rfl
theorem laidOut_ : laidOutB Try.prog = true := by kernel_rfl
theorem ints_of {k : IntKind} : ∀ l : List Value, (∀ i, i < l.length → ∃ z, l[i]? = some (.int k z) ∧ (Lit.int k z).wf = true) → ∃ bs : List Int, l = bs.map (Value.int k) ∧ ∀ z ∈ bs, (Lit.int k z).wf = true
  | [], _ => ⟨[], rfl, by simp⟩
  | x :: l, h => by
    obtain ⟨z, hz, hw⟩ := h 0 (by simp)
    obtain ⟨bs, hb, hbw⟩ := ints_of l fun i hi => by
      obtain ⟨z, hz, hw⟩ := h (i + 1) (by simp; omega)
      exact ⟨z, by simpa using hz, hw⟩
    simp only [List.getElem?_cons_zero, Option.some.injEq] at hz
    subst hz
    refine ⟨z :: bs, by rw [hb]; rfl, fun y hy => ?_⟩
    rcases List.mem_cons.1 hy with rfl | hy
    · exact hw
    · exact hbw y hy
/-- An array of integers that comes in. -/
theorem open_arr {H : Type} {enc : TypeId × Value → H} {W : World} {base : Nat} {b0 : Nat} {spare : Nat → Bool} {held : Bool} {v : Value} {d : DataW H} {ps : List MemPlace} {t e : TypeId} {n : Nat} {k : IntKind}
    (ht : Try.prog.underlying t = some (.array n e)) (he : Try.prog.underlying e = some (.int k)) (hct : Try.prog.cellsOf t = n) (hce : Try.prog.cellsOf e = 1)
    (hval : Value.okWide Try.prog W .any b0 t v) (h : DataW.Trod enc Try.prog W base spare held t v d ps) :
    ∃ bs : List Int, bs.length = n ∧ (∀ z ∈ bs, (Lit.int k z).wf = true) ∧ v = .agg (bs.map (Value.int k)).toArray := by
  obtain ⟨cs, rfl, hsz, _⟩ : ∃ cs, v = .agg cs ∧ cs.size = Try.prog.cellsOf t ∧ Row.okWide Try.prog W .any b0 t cs := by
    simpa [Value.okWide, ht] using hval
  rw [hct] at hsz
  obtain ⟨fuel, hf⟩ := h
  obtain ⟨xs, m, _, _, hl, hxs, hel⟩ := DataW.trod_array ht hf
  obtain ⟨l⟩ := cs
  have hl' : l.length = n := hsz
  have hc : (Value.agg ⟨l⟩).cells.toList = l := rfl
  obtain ⟨bs, hb, hw⟩ := ints_of (k := k) l fun i hi => by
    have := hel i (by omega)
    rw [hc, hce, Nat.mul_one, List.getElem?_eq_getElem (by omega)] at this
    obtain ⟨z, hz, _, hzw⟩ := DataW.trod_int he this
    refine ⟨z, ?_, hzw⟩
    have h2 := congrArg (fun q => q[0]?) hz
    simpa [List.getElem?_take, List.getElem?_drop] using h2
  exact ⟨bs, by rw [hb] at hl'; simpa using hl', hw, by rw [hb]⟩

/-- What is known of a row of integers that came in. -/
def IsRow (k : IntKind) (w : World) (a : Option Addr) (len cap : Nat) (zs : List Int) : Prop :=
  (a = none ∧ len = 0 ∧ cap = 0 ∧ zs = []) ∨
  ∃ x, a = some x ∧ len ≤ cap ∧ cap ≤ maxLen ∧ zs.length = cap ∧ (∀ i, i < zs.length → w.cell? (x.add i) = some (.int k (zs.getD i 0))) ∧ ∀ n ∈ zs, (Lit.int k n).wf = true

end Go.Proofs.Ytgeldhdijochdaa
/- Opening slices of integers at a law's call, as the machine takes them; and a law's call. Conditions: none. -/
set_option maxRecDepth 100000
namespace Go.Proofs.Ytgeldhdijochdaa
set_option linter.unusedVariables false
set_option linter.unusedSimpArgs false
open Go Go.ChangeShapes Go.WideShapes Go.ChangeAt Go.RowKit

theorem has_lt {P : Program} {w : World} {r : Reach} {base : Nat} {a : Addr} {e : TypeId} {n : Nat} (h : w.has P r base a e n) : a.block < w.heap.size := by
  obtain ⟨_, _, row, cells, hs, _⟩ := h
  unfold World.shape? at hs
  split at hs
  · rename_i hb
    exact (Array.getElem?_eq_some_iff.1 hb).1
  all_goals first | cases hs | (rename_i hb; exact (Array.getElem?_eq_some_iff.1 hb).1)
/-- A slice of integers that comes in. -/
theorem open_sl {H : Type} {enc : TypeId × Value → H} {W : World} {base : Nat} {b0 : Nat} {spare : Nat → Bool} {held : Bool} {v : Value} {d : DataW H} {ps : List MemPlace} {t e : TypeId} {k : IntKind}
    (ht : Try.prog.underlying t = some (.slice e)) (he : Try.prog.underlying e = some (.int k)) (hce : Try.prog.cellsOf e = 1)
    (hval : Value.okWide Try.prog W .any b0 t v) (h : DataW.Trod enc Try.prog W base spare held t v d ps) :
    ∃ a cap, ∃ zs : List Int, v = .slice a zs.length cap ∧ Am.RowAt W ⟨a, cap⟩ k zs ∧ ∀ z ∈ zs, (Lit.int k z).wf = true := by
  obtain ⟨a, len, cap, rfl⟩ := okWide_slice ht hval
  have hlt : ∀ x, a = some x → x.block < W.heap.size := fun x hx => by
    subst hx
    simp only [Value.okWide, ht, Cell.okWide, Cell.ok] at hval
    exact has_lt hval.2.2
  obtain ⟨fuel, hf⟩ := h
  rcases open_ints ht he hce hf with ⟨hcs, _⟩ | ⟨x, l, c, zs, hcs, _, hl, hm, hz, _, hcell, hwz⟩
  · simp [Value.cells] at hcs
    obtain ⟨rfl, rfl, rfl⟩ := hcs
    exact ⟨none, 0, [], rfl, ⟨Nat.le_refl _, .inl rfl, fun x hx => by cases hx⟩, by simp⟩
  · simp [Value.cells] at hcs
    obtain ⟨rfl, rfl, rfl⟩ := hcs
    have hzl : len ≤ zs.length := by rw [hz]; split <;> omega
    have hlen : (zs.take len).length = len := by rw [List.length_take]; omega
    refine ⟨some x, cap, zs.take len, by rw [hlen], ⟨by rw [hlen]; exact hl, .inr ⟨x, rfl, fun j u hj => ?_⟩, hlt⟩, fun z hz' => hwz z (List.mem_of_mem_take hz')⟩
    have hjl : j < len := by
      have := (List.getElem?_eq_some_iff.1 hj).1
      rw [List.length_map, hlen] at this; exact this
    rw [List.getElem?_map, List.getElem?_take, if_pos hjl, List.getElem?_eq_getElem (by omega)] at hj
    simp only [Option.map_some, Option.some.injEq] at hj
    subst hj
    have := hcell j (by omega)
    simpa [List.getD_eq_getElem?_getD, List.getElem?_eq_getElem (show j < zs.length by omega)] using this
end Go.Proofs.Ytgeldhdijochdaa
namespace Go.Proofs.Ytgeldhdijochdaa.Am
open Go Go.RowKit
variable [GT]
omit [GT] in
/-- Rows that come in, as blocks to be read. -/
def rowsH : List (Loc × IntKind × List Int) → Nat → List (Nat × Blk)
  | [], _ => []
  | (_, k, zs) :: l, n => (n, ⟨2, 0, [.arr k zs]⟩) :: rowsH l (n + 1)
omit [GT] in
theorem rowsH_spec : ∀ (l : List (Loc × IntKind × List Int)) (n i : Nat) (b : Blk), look (rowsH l n) i = some b → n ≤ i ∧ i < n + l.length ∧ ∃ x, l[i - n]? = some x ∧ b = ⟨2, 0, [.arr x.2.1 x.2.2]⟩
  | [], n, i, b, h => by cases h
  | (g, k, zs) :: l, n, i, b, h => by
    simp only [rowsH, look_cons] at h
    by_cases hi : n = i
    · subst hi
      rw [if_pos rfl] at h
      injection h with h
      subst h
      exact ⟨Nat.le_refl _, by simp, (g, k, zs), by simp, rfl⟩
    · rw [if_neg hi] at h
      obtain ⟨h1, h2, x, hx, hb⟩ := rowsH_spec l (n + 1) i b h
      refine ⟨by omega, by simp only [List.length_cons]; omega, x, ?_, hb⟩
      rw [show i - n = (i - (n + 1)) + 1 by omega, List.getElem?_cons_succ]
      exact hx
theorem hr_rows {w : World} (l : List (Loc × IntKind × List Int)) (h : ∀ x ∈ l, RowAt w x.1 x.2.1 x.2.2) (hgw : GWok w.heap.size [] w) : HR (fun i => (l.map (·.1)).getD i ⟨none, 0⟩) (· < l.length) w.heap.size [] (look (rowsH l 0)) w := by
  have hall : ∀ i b, look (rowsH l 0) i = some b → i < l.length ∧ ∃ k zs, b = ⟨2, 0, [.arr k zs]⟩ ∧ RowAt w ((l.map (·.1)).getD i ⟨none, 0⟩) k zs := fun i b hb => by
    obtain ⟨_, h2, x, hx, rfl⟩ := rowsH_spec _ _ _ _ hb
    rw [Nat.sub_zero] at hx
    refine ⟨by omega, _, _, rfl, ?_⟩
    have e : (l.map (·.1)).getD i ⟨none, 0⟩ = x.1 := by simp [List.getD_eq_getElem?_getD, hx]
    rw [e]
    exact h x (List.mem_of_getElem? hx)
  refine ⟨Nat.le_refl _, fun i b hb => ?_, fun i b x hb hx => ?_, fun i b x hb hk hx => ?_, fun i j bi bj x y hi hj hij hk hx hy => ?_, hgw⟩
  · obtain ⟨h2, k, zs, rfl, h3, h4, _⟩ := hall i b hb
    refine ⟨h2, fun s hs => (by simp at hs; subst hs; trivial), ?_⟩
    show (segsVals _ _).length ≤ _ ∧ _
    rw [segsVals_one]
    refine ⟨by simpa [Seg.vals] using h3, ?_⟩
    rcases h4 with rfl | h4
    · exact .inl rfl
    · exact .inr h4
  · obtain ⟨_, k, zs, rfl, _, _, h5⟩ := hall i b hb
    exact h5 x hx
  · obtain ⟨_, k, zs, rfl, _⟩ := hall i b hb
    simp at hk
  · obtain ⟨_, k, zs, rfl, _⟩ := hall i bi hi
    simp at hk
/-- A law's run that ends in true. -/
theorem law_reach {f : FuncId} {fn : Func} (hf : Try.prog.funcs[f]? = some fn) {avs : List SV} {hp : List (Nat × Blk)} {k : Nat} {todo : List AI} {st : St} (hR : From Try.prog fn avs hp k [] todo st) (hfin : todo = [] ∨ todo = [.fin]) (hv : resVal tyT st fn.results.toList = some (ofV (.bool true))) (hlen : Nat.ble avs.length fn.ntmps = true) (hin : avs.all (svB fun i => Nat.blt i k) = true) {ρc : Nat → Loc} {w : World} (hG : HR ρc (· < k) w.heap.size [] (look hp) w) :
    Calls Try.prog f (avs.map (SV.conc ρc)).toArray w fun e w' => e = .returned (.bool true) ∧ Below w.heap.size w w' := by
  obtain ⟨c, hc, hRe⟩ := hR
  exact reach_val tyT_ok hf hc hfin hRe hv (by rfl) hlen (fun s hs => svB_in (f := fun i => Nat.blt i k) (fun i h => Nat.le_of_ble_eq_true h) (List.all_eq_true.1 hin s hs)) hG (fun _ => ⟨none, 0⟩)
omit [GT] in
theorem conc_s0 {ρ : Nat → Loc} {i n cap : Nat} : SV.conc ρ (.av (.one (.s i 0 n cap))) = .slice (ρ i).a n cap := by
  simp only [SV.conc, AV.conc, Seg.conc]
  cases (ρ i).a <;> simp [Addr.add]
end Go.Proofs.Ytgeldhdijochdaa.Am
