/- The sums' Add, of any parts. Conditions: none. -/
import Derived.Test.YtmhmfmnjdbehcaaDoorZ8
import Derived.Test.YtmhmfmnjdbehcaaDoorRows
set_option linter.unusedSectionVars false
namespace Go.Proofs.YtmhmfmnjdbehcaaDoor.Am
set_option linter.unusedVariables false
set_option linter.unusedSimpArgs false
open Go Go.RowKit
set_option linter.unusedSectionVars false
section
variable [GT] [GRnd]
def arB (sf : Nat → Int) (l : List Int) (n z : Int) (cap : Nat) (vs : List Value) : List CB := [.mu 63 [.ag .u64 (keyL 8 sf), .sl .u8 l, .sg (.v (.int .i64 n)), .sg (.v (.int .i64 z))], .ro cap vs]
def arX (k tq : Nat) (sf : Nat → Int) (l : List Int) (o L d : Nat) (n z : Int) (cap : Nat) (vs : List Value) (i : Int) : St := { tm := tmL 45 [(0, .av (.one (.p 0 0))), (7, .av (.one (.s 2 0 vs.length cap))), (8, ofV (.int .i64 vs.length)), (9, ofV (.int .i64 i))], hp := [(0, ⟨0, 63, adC sf 1 o L d n z⟩), (1, ⟨k, tq, [.arr .u8 l]⟩), (2, ⟨2, 0, [.vs vs]⟩)], nx := 3, gl := [] }
def arI (k tq : Nat) (sf : Nat → Int) (a l : List Int) (o L d lo lL ld : Nat) (n z : Int) (cap : Nat) (vs : List Value) (i : Int) : St := { tm := tmL 45 [(0, .av (.one (.p 0 0))), (6, .av (.one (.r 1 o L d))), (7, .av (.one (.s 3 0 vs.length cap))), (8, ofV (.int .i64 vs.length)), (9, ofV (.int .i64 i))], hp := [(0, ⟨0, 63, adC sf 2 lo lL ld n z⟩), (1, ⟨1, 5, [.arr .u8 a]⟩), (2, ⟨k, tq, [.arr .u8 l]⟩), (3, ⟨2, 0, [.vs vs]⟩)], nx := 4, gl := [] }
theorem ar_start (κ : Nat → Value) (sf : Nat → Int) (l : List Int) (n z : Int) (cap : Nat) (vs : List Value) : runF tyT adO noH [] 1 [1, 2] [0, 7, 8, 9] fAd (bA (arB sf l n z cap vs) 0 1) (bH κ (arB sf l n z cap vs) 0 1) 3 [] = some (toAt fAd 1 [], arX 2 0 sf l 0 l.length 0 n z cap vs 0, []) := by kernel_rfl
theorem ar_in (k tq : Nat) (hk : k = 1 ∧ tq = 5 ∨ k = 2 ∧ tq = 0) (sf : Nat → Int) (l p : List Int) (o L d : Nat) (n z : Int) (cap : Nat) (vs : List Value) (a : Option Addr) (c i k_ : Nat) : runN tyT adO (atH 1 0 (isB true) (atH 2 0 symH (atH 2 1 (ldH a c p) (atH 3 6 (isI .i64 (n + p.length)) noH)))) [] 2000 1 [5, 1, 2] [0, 6, 7, 8, 9] (inAt fAd 1 [] k_) (arX k tq sf l o L d n z cap vs i) = some (toAt fAd 5 [k_], arI k tq sf (cutI l o L ++ cutI p 0 p.length) l 0 ((cutI l o L).length + (cutI p 0 p.length).length) 0 o L d (n + p.length) z cap vs i, [tB (decide ((i : Int) < (vs.length : Int))) true, 0 + vs.length ≤ widths [Seg.vs vs], 0 ≤ (i : Int) ∧ (i : Int).toNat ≤ vs.length - 1, 1 ≤ vs.length, ∀ ρ : Nat → Loc, (segsVals ρ [Seg.vs vs])[i]? = some (.slice a p.length c), TabRow GT.tab a p.length c .u8 p, tI .i64 (IntKind.wrap .i64 (n + p.length)) (n + p.length), o + L ≤ l.length, 0 + p.length ≤ p.length ∧ p.length ≤ c, (cutI l o L).length + (cutI p 0 p.length).length ≤ 1000000]) := by
  rcases hk with ⟨rfl, rfl⟩ | ⟨rfl, rfl⟩
  · kernel_rfl
  · kernel_rfl
noncomputable def adOZ : List (Nat × Ent) := [(36, entB [.mu 63 [.ag .u64 8, .kp, .sg, .sg], .sl .u8] bkF), (35, entB [.rs [.sl .u8, .sg]] ccZF)]
theorem adOZ_ok : OOK Tryd.prog adOZ := ook_of (l := [(36, entB [.mu 63 [.ag .u64 8, .kp, .sg, .sg], .sl .u8] bkF), (35, entB [.rs [.sl .u8, .sg]] ccZF)]) ⟨block_ent _, concatZ_ent _, trivial⟩
theorem ar_inZ (k tq : Nat) (hk : k = 1 ∧ tq = 5 ∨ k = 2 ∧ tq = 0) (sf : Nat → Int) (l : List Int) (o L d : Nat) (n z : Int) (cap : Nat) (vs : List Value) (a : Option Addr) (i k_ : Nat) : runN tyT adOZ (atH 1 0 (isB true) (atH 2 0 symH (atH 2 1 (ldZ a) (atH 3 6 (isI .i64 (n + 0)) noH)))) [] 2000 1 [4, 1, 2] [0, 6, 7, 8, 9] (inAt fAd 1 [] k_) (arX k tq sf l o L d n z cap vs i) = some (toAt fAd 5 [k_], arI k tq sf (cutI l o L) l 0 (cutI l o L).length 0 o L d (n + 0) z cap vs i, [tB (decide ((i : Int) < (vs.length : Int))) true, 0 + vs.length ≤ widths [Seg.vs vs], 0 ≤ (i : Int) ∧ (i : Int).toNat ≤ vs.length - 1, 1 ≤ vs.length, ∀ ρ : Nat → Loc, (segsVals ρ [Seg.vs vs])[i]? = some (.slice a 0 0), tI .i64 (IntKind.wrap .i64 (n + 0)) (n + 0), o + L ≤ l.length, (cutI l o L).length ≤ 1000000]) := by
  rcases hk with ⟨rfl, rfl⟩ | ⟨rfl, rfl⟩
  · kernel_rfl
  · kernel_rfl
theorem ar_go (k tq : Nat) (sf : Nat → Int) (a l : List Int) (o L d lo lL ld : Nat) (n z : Int) (cap : Nat) (vs : List Value) (i : Int) (j_ k_ : Nat) : runN tyT adO (atH 5 2 (isB true) (atH 6 4 symH (atH 7 1 symH noH))) [] 2000 1 [1, 2, 3] [0, 6, 7, 8, 9] (inAt fAd 5 [j_] k_) (arI k tq sf a l o L d lo lL ld n z cap vs i) = some (hdAt fAd 5 [j_] k_, arI k tq (g2 (compL (keyL 8 sf) (cutI a (plusO o 0) 128))) a l (plusO o 128) (L - 128) o lo lL ld n z cap vs i, [tB (decide ((L : Int) ≥ 128)) true, o + L ≤ widths [Seg.arr .u8 a], (0 : Int) ≤ 128 ∧ 128 ≤ widths [Seg.arr .u8 a] - o, plusO o 0 + 128 ≤ a.length, 63 = 63 ∧ (keyL 8 sf).length = 8 ∧ (cutI a (plusO o 0) 128).length = 128, o + L ≤ widths [Seg.arr .u8 a], (0 : Int) ≤ 128 ∧ 128 ≤ L]) := by kernel_rfl
theorem ar_out (k tq : Nat) (sf : Nat → Int) (a l : List Int) (o L d lo lL ld : Nat) (n z : Int) (cap : Nat) (vs : List Value) (i j_ k_ : Nat) : runN tyT adO (atH 5 2 (isB false) (atH 9 0 (isI .i64 ((i + 1 : Nat) : Int)) noH)) [] 2000 1 [1, 3] [0, 7, 8, 9] (inAt fAd 5 [j_] k_) (arI k tq sf a l o L d lo lL ld n z cap vs i) = some (hdAt fAd 1 [] j_, arX 1 5 sf a o L d n z cap vs ((i + 1 : Nat) : Int), [tB (decide ((L : Int) ≥ 128)) false, tI .i64 (IntKind.wrap .i64 ((i : Int) + 1)) ((i + 1 : Nat) : Int)]) := by kernel_rfl
theorem ar_end (sf : Nat → Int) (l : List Int) (o L d : Nat) (n z : Int) (cap : Nat) (vs : List Value) (i k_ : Nat) : runN tyT adO (atH 1 0 (isB false) noH) [] 2000 1 [1] [] (inAt fAd 1 [] k_) (arX 1 5 sf l o L d n z cap vs i) = some ([], adE sf l o L d n z, [tB (decide ((i : Int) < (vs.length : Int))) false]) := by kernel_rfl
theorem ar_inner (k tq : Nat) (s : List Int) (hs : s.length = 8) (a l : List Int) (lo lL ld : Nat) (n z : Int) (cap : Nat) (vs : List Value) (i jj : Nat) (hi : i ≤ 2000000) : ∀ (r j : Nat), j + r = KN a → Reaches Tryd.prog 1 (hdAt fAd 5 [jj] (r + 1)) (arI k tq (g2 (abN s a j)) a l (128 * j) (a.length - 128 * j) (128 * (j - 1)) lo lL ld n z cap vs i) (hdAt fAd 1 [] jj) (arX 1 5 (g2 (abA s a)) a (128 * KN a) (a.length - 128 * KN a) (128 * (KN a - 1)) n z cap vs ((i + 1 : Nat) : Int))
  | 0, j, h => by
    obtain rfl : j = KN a := by omega
    refine Reaches.oneK (Reaches.runK tyT_ok adO_ok mixed_ (ar_out k tq _ a l _ _ _ lo lL ld n z cap vs i jj 0) ?_)
    have e5 := w64 (z := ((i : Nat) : Int) + 1) (by omega) (by omega)
    simp only [allP_cons, allP_nil, and_true, true_and, tB_nge, tI_iff]
    unfold KN
    omega
  | r + 1, j, h => by
    have hj : 128 * (j + 1) ≤ a.length := by unfold KN at h; omega
    have hrun := ar_go k tq (g2 (abN s a j)) a l (128 * j) (a.length - 128 * j) (128 * (j - 1)) lo lL ld n z cap vs i jj (r + 1)
    have hl : ((a.drop (128 * j)).take 128).length = 128 := by rw [List.length_take, List.length_drop]; omega
    rw [keyL_g2 (abN_len hs a j), cut_blk, plusO_add, plusO_add] at hrun
    have ih := ar_inner k tq s hs a l lo lL ld n z cap vs i jj hi r (j + 1) (by omega)
    rw [show a.length - 128 * j - 128 = a.length - 128 * (j + 1) by omega, show 128 * j + 128 = 128 * (j + 1) by omega] at hrun
    rw [show j + 1 - 1 = j by omega] at ih
    refine (Reaches.oneK (Reaches.runK tyT_ok adO_ok mixed_ hrun ?_)).trans ih
    simp only [allP_cons, allP_nil, and_true, true_and, tB_ge, widths_o, hl, abN_len hs a j]
    omega
/-- One part: what was left and it. -/
theorem ar_part (k tq : Nat) (hk : k = 1 ∧ tq = 5 ∨ k = 2 ∧ tq = 0) (s : List Int) (hs : s.length = 8) (l : List Int) (o L d : Nat) (n z : Int) (cap : Nat) (ps : List Pt) (hps : PtsOK ps) (i jj : Nat) (hi : i < ps.length) (hn : ps.length ≤ 2000000) (hoL : o + L ≤ l.length) (hlen : L + ps[i].2.2.length ≤ 1000000) (h0 : 0 ≤ n) (h1 : n ≤ 1000000) : Reaches Tryd.prog 1 (inAt fAd 1 [] jj) (arX k tq (g2 s) l o L d n z cap (pv ps) i) (hdAt fAd 1 [] jj) (arX 1 5 (g2 (abA s (cutI l o L ++ ps[i].2.2))) (cutI l o L ++ ps[i].2.2) (128 * KN (cutI l o L ++ ps[i].2.2)) ((cutI l o L ++ ps[i].2.2).length - 128 * KN (cutI l o L ++ ps[i].2.2)) (128 * (KN (cutI l o L ++ ps[i].2.2) - 1)) (n + ps[i].2.2.length) z cap (pv ps) ((i + 1 : Nat) : Int)) := by
  have hcl : (cutI l o L).length = L := by rw [cutI_eq, List.length_take, List.length_drop]; omega
  rcases hps _ (List.getElem_mem hi) with htr | ⟨hz0, hz1⟩
  case inr =>
    have hg := pv_get hi
    rw [hz0, hz1] at hg
    have hin := ar_inZ k tq hk (g2 s) l o L d n z cap (pv ps) ps[i].1 i jj
    rw [hz0, List.append_nil]
    refine (Reaches.runK tyT_ok adOZ_ok mixed_ hin ?_).trans (Reaches.roundsK (KN (cutI l o L) + 1) (ar_inner k tq s hs (cutI l o L) l o L d (n + 0) z cap (pv ps) i jj (by omega) (KN (cutI l o L)) 0 (Nat.zero_add _)))
    rw [vs_w, pv_len]
    refine ⟨tB_lt.2 (by omega), by omega, by omega, by omega, vs_get _ _ _ hg, tI_iff.2 (w64 (by omega) (by omega)), hoL, ?_, trivial⟩
    omega
  have hin := ar_in k tq hk (g2 s) l ps[i].2.2 o L d n z cap (pv ps) ps[i].1 ps[i].2.1 i jj
  rw [cutI_all, ← List.length_append] at hin
  refine (Reaches.runK tyT_ok adO_ok mixed_ hin ?_).trans (Reaches.roundsK (KN (cutI l o L ++ ps[i].2.2) + 1) (ar_inner k tq s hs (cutI l o L ++ ps[i].2.2) l o L d (n + ps[i].2.2.length) z cap (pv ps) i jj (by omega) (KN (cutI l o L ++ ps[i].2.2)) 0 (Nat.zero_add _)))
  rw [vs_w, pv_len]
  refine ⟨tB_lt.2 (by omega), by omega, by omega, by omega, vs_get _ _ _ (pv_get hi), htr, tI_iff.2 (w64 (by omega) (by omega)), hoL, ⟨by omega, htr.2.1⟩, ?_, trivial⟩
  rw [List.length_append, hcl]
  omega
/-- The row that the last part makes. -/
def arR (l : List Int) (ps : List Pt) : Nat → List Int
  | 0 => l
  | 1 => l ++ (ps.getD 0 (none, 0, [])).2.2
  | i + 2 => lf (arR l ps (i + 1)) ++ (ps.getD (i + 1) (none, 0, [])).2.2
theorem arR_lf (s l : List Int) (ps : List Pt) : ∀ i, i < ps.length → lf (arR l ps (i + 1)) = lf (l ++ jn (ps.take (i + 1)))
  | 0, h => by
    rw [jn_take h, List.take_zero]
    show lf (l ++ (ps.getD 0 (none, 0, [])).2.2) = lf (l ++ ([] ++ ps[0].2.2))
    rw [List.getD_eq_getElem?_getD, List.getElem?_eq_getElem h, List.nil_append]
    rfl
  | i + 1, h => by
    have ih := arR_lf s l ps i (by omega)
    rw [jn_take h]
    show lf (lf (arR l ps (i + 1)) ++ (ps.getD (i + 1) (none, 0, [])).2.2) = _
    rw [ih, lf_app, List.getD_eq_getElem?_getD, List.getElem?_eq_getElem h, List.append_assoc]
    rfl
theorem arR_ab (s l : List Int) (ps : List Pt) (i : Nat) (h : i + 1 < ps.length) : abA (abA s (l ++ jn (ps.take (i + 1)))) (arR l ps (i + 2)) = abA s (l ++ jn (ps.take (i + 2))) := by
  show abA _ (lf (arR l ps (i + 1)) ++ (ps.getD (i + 1) (none, 0, [])).2.2) = _
  rw [arR_lf s l ps i (by omega), List.getD_eq_getElem?_getD, List.getElem?_eq_getElem h, jn_take h, ← List.append_assoc]
  exact abA_app s _ _
theorem jn_int (ps : List Pt) (i : Nat) (h : i < ps.length) (n : Int) : n + ((jn (ps.take i)).length : Int) + ps[i].2.2.length = n + ((jn (ps.take (i + 1))).length : Int) := by
  rw [jn_take h, List.length_append]
  omega
theorem ar_rounds (s : List Int) (hs : s.length = 8) (l : List Int) (n z : Int) (cap : Nat) (ps : List Pt) (hps : PtsOK ps) (hn : ps.length ≤ 2000000) (hlen : l.length + (jn ps).length ≤ 900000) (h0 : 0 ≤ n) (h1 : n + (jn ps).length ≤ 1000000) : ∀ (r i : Nat), i + 1 + r = ps.length → Reaches Tryd.prog 1 (hdAt fAd 1 [] (r + 1)) (arX 1 5 (g2 (abA s (l ++ jn (ps.take (i + 1))))) (arR l ps (i + 1)) (128 * KN (arR l ps (i + 1))) ((arR l ps (i + 1)).length - 128 * KN (arR l ps (i + 1))) (128 * (KN (arR l ps (i + 1)) - 1)) (n + ((jn (ps.take (i + 1))).length : Int)) z cap (pv ps) ((i + 1 : Nat) : Int)) [] (adE (g2 (abA s (l ++ jn ps))) (arR l ps ps.length) (128 * KN (arR l ps ps.length)) ((arR l ps ps.length).length - 128 * KN (arR l ps ps.length)) (128 * (KN (arR l ps ps.length) - 1)) (n + ((jn ps).length : Int)) z)
  | 0, i, e => by
    have e1 : i + 1 = ps.length := by omega
    rw [e1, List.take_length]
    exact Reaches.oneK (Reaches.runK tyT_ok adO_ok mixed_ (ar_end _ _ _ _ _ _ z cap (pv ps) ps.length 0) ⟨tB_nlt.2 (by rw [pv_len]; omega), trivial⟩)
  | r + 1, i, e => by
    have hi : i + 1 < ps.length := by omega
    have ih := ar_rounds s hs l n z cap ps hps hn hlen h0 h1 r (i + 1) (by omega)
    have hp := part_le hi
    have hj := jn_le ps (i + 1)
    have hll := lf_len (arR l ps (i + 1))
    have hkn := KN_le (arR l ps (i + 1))
    have hlf : (arR l ps (i + 1)).length - 128 * KN (arR l ps (i + 1)) = (arR l ps (i + 1)).length % 128 := by unfold KN; omega
    have hst := ar_part 1 5 (.inl ⟨rfl, rfl⟩) (abA s (l ++ jn (ps.take (i + 1)))) (abA_len hs _) (arR l ps (i + 1)) (128 * KN (arR l ps (i + 1))) ((arR l ps (i + 1)).length - 128 * KN (arR l ps (i + 1))) (128 * (KN (arR l ps (i + 1)) - 1)) (n + ((jn (ps.take (i + 1))).length : Int)) z cap ps hps (i + 1) (r + 1) hi hn (by omega) (by omega) (by omega) (by omega)
    have eR : cutI (arR l ps (i + 1)) (128 * KN (arR l ps (i + 1))) ((arR l ps (i + 1)).length - 128 * KN (arR l ps (i + 1))) ++ ps[i + 1].2.2 = arR l ps (i + 2) := by
      rw [lf_def]
      show _ = lf (arR l ps (i + 1)) ++ (ps.getD (i + 1) (none, 0, [])).2.2
      rw [List.getD_eq_getElem?_getD, List.getElem?_eq_getElem hi]
      rfl
    rw [eR, arR_ab s l ps i hi, jn_int ps (i + 1) hi n] at hst
    exact (Reaches.oneK hst).trans ih
/-- Add of some parts, told by what they make together. -/
def arF (ps : List Pt) : List CB → Option BR
  | [.mu ty [.ag .u64 s, .sl .u8 l, .sg (.v (.int .i64 n)), .sg (.v (.int .i64 z))], .ro _ vs] => some { pre := vs = pv ps ∧ ps ≠ [] ∧ PtsOK ps ∧ ps.length ≤ 2000000 ∧ ty = 63 ∧ s.length = 8 ∧ l.length + (jn ps).length ≤ 900000 ∧ 0 ≤ n ∧ n + (jn ps).length ≤ 1000000, val := .tup [], new := [⟨1, 5, [.arr .u8 (arR l ps ps.length)]⟩], upd := [[.s (.arr .u64 (keyL 8 (g2 (abA s (l ++ jn ps))))), .s (.r 0 (128 * KN (arR l ps ps.length)) ((arR l ps ps.length).length - 128 * KN (arR l ps ps.length)) (128 * (KN (arR l ps ps.length) - 1))), .s (.v (.int .i64 (n + ((jn ps).length : Int)))), .s (.v (.int .i64 z))]] }
  | _ => none
theorem ar_ends (ps : List Pt) (cbs : List CB) (r : BR) (hF : arF ps cbs = some r) (hp : r.pre) : EndsB Tryd.prog tyT [] fAd cbs r := by
  unfold arF at hF
  split at hF
  · rename_i ty s l n z cap vs
    injection hF with hF
    subst hF
    obtain ⟨rfl, hne, hps, hn, rfl, hs, hlen, h0, h1⟩ : vs = pv ps ∧ ps ≠ [] ∧ PtsOK ps ∧ ps.length ≤ 2000000 ∧ ty = 63 ∧ s.length = 8 ∧ l.length + (jn ps).length ≤ 900000 ∧ 0 ≤ n ∧ n + (jn ps).length ≤ 1000000 := hp
    intro κ
    have hpos : 0 < ps.length := List.length_pos_iff.2 hne
    have hpl := part_le hpos
    obtain ⟨r, hr⟩ : ∃ r, 0 + 1 + r = ps.length := ⟨ps.length - 1, by omega⟩
    have hst := FromK.run (m0 := 1) tyT_ok adO_ok mixed_ (ar_start κ (g2 s) l n z cap (pv ps)) trivial
    have hin := ar_part 2 0 (.inr ⟨rfl, rfl⟩) s hs l 0 l.length 0 n z cap ps hps 0 (r + 1) hpos hn (by omega) (by omega) h0 (by omega)
    have eR : cutI l 0 l.length ++ ps[0].2.2 = arR l ps 1 := by
      rw [cutI_all]
      show _ = l ++ (ps.getD 0 (none, 0, [])).2.2
      rw [List.getD_eq_getElem?_getD, List.getElem?_eq_getElem hpos]
      rfl
    have eJ : jn (ps.take 1) = ps[0].2.2 := by
      have := jn_take hpos
      rw [List.take_zero] at this
      exact this
    have eR2 : arR l ps 1 = l ++ jn (ps.take 1) := by rw [eJ, ← eR, cutI_all]
    rw [eR] at hin
    have hrs := ar_rounds s hs l n z cap ps hps hn hlen h0 h1 r 0 hr
    rw [← eR2, eJ] at hrs
    have hall := hst.trans (Reaches.roundsK (r + 2) ((Reaches.oneK hin).trans hrs))
    unfold adE adC at hall
    unfold arB at hall
    rw [keyL_g2 hs] at hall
    exact ⟨[], _, .tup [], [1], .inl rfl, hall, by kernel_rfl, by kernel_rfl, by kernel_rfl⟩
  · cases hF
theorem addr_ent (ps : List Pt) (sh : List ShB) (hs : sh.length = 2 := by rfl) : EntOK Tryd.prog 19 (entB sh (arF ps)) :=
  ok_B tyT_ok Tryd.func19 (by kernel_rfl) (by kernel_rfl) [] (fun x hx => by cases hx) (by rw [hs]; kernel_rfl) (ar_ends ps)
end
end Go.Proofs.YtmhmfmnjdbehcaaDoor.Am
/- The sums of any parts. Conditions: none. -/
namespace Go.Proofs.YtmhmfmnjdbehcaaDoor.Am
set_option linter.unusedVariables false
set_option linter.unusedSimpArgs false
open Go Go.RowKit
set_option linter.unusedSectionVars false
section
variable [GT] [GRnd]
/-- Add of no parts. -/
def a0rF : List CB → Option BR
  | [.mu ty [.ag .u64 s, .kp i, .sg (.v (.int .i64 n)), .sg (.v (.int .i64 z))], .ro _ []] => some { pre := ty = 63 ∧ s.length = 8, val := .tup [], upd := [[.s (.arr .u64 s), .k i, .s (.v (.int .i64 n)), .s (.v (.int .i64 z))]] }
  | _ => none
def a0rB (sf : Nat → Int) (i : Nat) (n z : Int) (cap : Nat) : List CB := [.mu 63 [.ag .u64 (keyL 8 sf), .kp i, .sg (.v (.int .i64 n)), .sg (.v (.int .i64 z))], .ro cap []]
theorem a0r_run (κ : Nat → Value) (sf : Nat → Int) (i : Nat) (n z : Int) (cap : Nat) : runF tyT [] noH [(1, 1)] 1 [] [] fAd (bA (a0rB sf i n z cap) 0 1) (bH κ (a0rB sf i n z cap) 0 1) 2 [] = some ([], { tm := tmL 45 [], hp := [(0, ⟨0, 63, bkC (κ i) sf n z⟩)], nx := 1, gl := [] }, []) := by kernel_rfl
theorem a0r_ends (cbs : List CB) (r : BR) (hF : a0rF cbs = some r) (hp : r.pre) : EndsB Tryd.prog tyT [] fAd cbs r := by
  unfold a0rF at hF
  split at hF
  · rename_i ty s i n z cap
    injection hF with hF
    subst hF
    obtain ⟨rfl, hs⟩ : ty = 63 ∧ s.length = 8 := hp
    intro κ
    have h := FromK.run (m0 := 1) tyT_ok nil_ok mixed_ (a0r_run κ (g2 s) i n z cap) trivial
    unfold a0rB bkC at h
    rw [keyL_g2 hs] at h
    exact ⟨[], _, .tup [], [], .inl rfl, h, by kernel_rfl, by kernel_rfl, by kernel_rfl⟩
  · cases hF
theorem add0r_ent (sh : List ShB) (hs : sh.length = 2 := by rfl) : EntOK Tryd.prog 19 (entB sh a0rF) :=
  ok_B tyT_ok Tryd.func19 (by kernel_rfl) (by kernel_rfl) [] (fun x hx => by cases hx) (by rw [hs]; kernel_rfl) a0r_ends
/-- Add of parts, some or none. -/
noncomputable def eAddR (ps : List Pt) : Ent := eOr (entB [.mu 63 [.ag .u64 8, .kp, .sg, .sg], .ro] a0rF) (entB [.mu 63 [.ag .u64 8, .sl .u8, .sg, .sg], .ro] (arF ps))
theorem eAddR_ok (ps : List Pt) : EntOK Tryd.prog 19 (eAddR ps) := eOr_ok (add0r_ent _) (addr_ent ps _)
noncomputable abbrev fSr512 : Func := Tryd.f25
noncomputable def sr512O (ps : List Pt) : List (Nat × Ent) := [(19, entB [.mu 63 [.ag .u64 8, .sl .u8, .sg, .sg], .ro] (arF ps)), (20, entB [.rd [.ag .u64 8, .sl .u8, .sg, .sg]] suF), (17, entB [] nwF512)]
theorem sr512O_ok [G512] (ps : List Pt) : OOK Tryd.prog (sr512O ps) := ook_of (l := [(19, entB [.mu 63 [.ag .u64 8, .sl .u8, .sg, .sg], .ro] (arF ps)), (20, entB [.rd [.ag .u64 8, .sl .u8, .sg, .sg]] suF), (17, entB [] nwF512)]) ⟨addr_ent ps _, sum_ent _, new512_ent _, trivial⟩
noncomputable def sz512O : List (Nat × Ent) := [(19, entB [.mu 63 [.ag .u64 8, .kp, .sg, .sg], .ro] a0rF), (20, entB [.rd [.ag .u64 8, .sl .u8, .sg, .sg]] suF), (17, entB [] nwF512)]
theorem sz512O_ok [G512] : OOK Tryd.prog sz512O := ook_of (l := [(19, entB [.mu 63 [.ag .u64 8, .kp, .sg, .sg], .ro] a0rF), (20, entB [.rd [.ag .u64 8, .sl .u8, .sg, .sg]] suF), (17, entB [] nwF512)]) ⟨add0r_ent _, sum_ent _, new512_ent _, trivial⟩
theorem sr512_run (κ : Nat → Value) (cap : Nat) (vs : List Value) (ps : List Pt) : runF tyT (sr512O ps) noH [] 0 [1] [2] fSr512 (bA [.ro cap vs] 0 0) (bH κ [.ro cap vs] 0 0) 1 [] = some ([.fin], { tm := tmL 12 [(2, .av (.one (.p 0 0)))], hp := [(0, ⟨0, 34, [.arr .u8 (keyL 64 (g2 (sumW (keyL 8 (g2 (abA kStart512 ([] ++ jn ps)))) (lf (arR [] ps ps.length)) ((0 : Int) + ((jn ps).length : Int)))))]⟩)], nx := 1, gl := [] }, [True, vs.length = vs.length, vs = pv ps ∧ ps ≠ [] ∧ PtsOK ps ∧ ps.length ≤ 2000000 ∧ 63 = 63 ∧ kStart512.length = 8 ∧ ([] : List Int).length + (jn ps).length ≤ 900000 ∧ (0 : Int) ≤ 0 ∧ (0 : Int) + (jn ps).length ≤ 1000000, 128 * KN (arR [] ps ps.length) + ((arR [] ps ps.length).length - 128 * KN (arR [] ps ps.length)) ≤ (arR [] ps ps.length).length, (keyL 8 (g2 (abA kStart512 ([] ++ jn ps)))).length = 8 ∧ (lf (arR [] ps ps.length)).length ≤ 1000 ∧ 0 ≤ ((0 : Int) + ((jn ps).length : Int)) ∧ ((0 : Int) + ((jn ps).length : Int)) ≤ 1000000 ∧ ((64 : Int) = 64 ∨ (64 : Int) = 48)]) := by kernel_rfl
theorem sz512_run (κ : Nat → Value) (cap : Nat) : runF tyT sz512O noH [] 0 [1] [2] fSr512 (bA [.ro cap []] 0 0) (bH κ [.ro cap []] 0 0) 1 [] = some ([.fin], { tm := tmL 12 [(2, .av (.one (.p 0 0)))], hp := [(0, ⟨0, 34, [.arr .u8 (keyL 64 (g2 (sumW kStart512 [] 0)))]⟩)], nx := 1, gl := [] }, [True, ([] : List Value).length = ([] : List Value).length, 63 = 63 ∧ kStart512.length = 8, kStart512.length = 8 ∧ ([] : List Int).length ≤ 1000 ∧ (0 : Int) ≤ 0 ∧ (0 : Int) ≤ 1000000 ∧ ((64 : Int) = 64 ∨ (64 : Int) = 48)]) := by kernel_rfl
def s512Fr (ps : List Pt) : List CB → Option BR
  | [.ro _ vs] => some { pre := vs = pv ps ∧ PtsOK ps ∧ ps.length ≤ 2000000 ∧ (jn ps).length ≤ 900000, val := .av (.one (.arr .u8 (keyL 64 (g2 (shaL kStart512 (jn ps)))))) }
  | _ => none
theorem s512_endsR [G512] (ps : List Pt) (cbs : List CB) (r : BR) (hF : s512Fr ps cbs = some r) (hp : r.pre) : EndsB Tryd.prog tyT [] fSr512 cbs r := by
  unfold s512Fr at hF
  split at hF
  · rename_i cap vs
    injection hF with hF
    subst hF
    obtain ⟨rfl, hps, hn, hl⟩ : vs = pv ps ∧ PtsOK ps ∧ ps.length ≤ 2000000 ∧ (jn ps).length ≤ 900000 := hp
    intro κ
    have h8 : kStart512.length = 8 := rfl
    by_cases hne : ps = []
    · subst hne
      have hrun := sz512_run κ cap
      rw [show ([] : List Int) = lf [] from rfl, show sumW kStart512 (lf []) 0 = shaL kStart512 [] from sumW_eq kStart512 [] 0 rfl] at hrun
      have h := FromK.run (m0 := 0) tyT_ok sz512O_ok mixed_ hrun ⟨trivial, rfl, ⟨rfl, h8⟩, ⟨h8, by decide, by decide, by decide, by decide⟩, trivial⟩
      exact ⟨[.fin], _, .av (.one (.arr .u8 (keyL 64 (g2 (shaL kStart512 (jn [])))))), [], .inr rfl, h, by kernel_rfl, by kernel_rfl, by kernel_rfl⟩
    · obtain ⟨i, hi⟩ : ∃ i, ps.length = i + 1 := ⟨ps.length - 1, by have := List.length_pos_iff.2 hne; omega⟩
      have hlf := arR_lf kStart512 [] ps i (by omega)
      rw [← hi, List.take_length, List.nil_append] at hlf
      have hrun := sr512_run κ cap (pv ps) ps
      rw [keyL_g2 (abA_len h8 _), List.nil_append, hlf, sumW_eq _ _ _ (by omega)] at hrun
      have h := FromK.run (m0 := 0) tyT_ok (sr512O_ok ps) mixed_ hrun ?_
      · exact ⟨[.fin], _, .av (.one (.arr .u8 (keyL 64 (g2 (shaL kStart512 (jn ps)))))), [], .inr rfl, h, by kernel_rfl, by kernel_rfl, by kernel_rfl⟩
      · have k1 := KN_le (arR [] ps ps.length)
        have m1 := lf_len (jn ps)
        refine ⟨trivial, rfl, ⟨rfl, hne, hps, hn, rfl, h8, by simpa using hl, by decide, by omega⟩, by omega, ⟨abA_len h8 _, by omega, by omega, by omega, by decide⟩, trivial⟩
  · cases hF
theorem s512_entR [G512] (ps : List Pt) (sh : List ShB) (hs : sh.length = 1 := by rfl) : EntOK Tryd.prog 25 (entB sh (s512Fr ps)) :=
  ok_B tyT_ok Tryd.func25 (by kernel_rfl) (by kernel_rfl) [] (fun x hx => by cases hx) (by rw [hs]; kernel_rfl) (s512_endsR ps)
noncomputable abbrev fSr384 : Func := Tryd.f26
noncomputable def sr384O (ps : List Pt) : List (Nat × Ent) := [(19, entB [.mu 63 [.ag .u64 8, .sl .u8, .sg, .sg], .ro] (arF ps)), (20, entB [.rd [.ag .u64 8, .sl .u8, .sg, .sg]] suF), (18, entB [] nwF384)]
theorem sr384O_ok [G384] (ps : List Pt) : OOK Tryd.prog (sr384O ps) := ook_of (l := [(19, entB [.mu 63 [.ag .u64 8, .sl .u8, .sg, .sg], .ro] (arF ps)), (20, entB [.rd [.ag .u64 8, .sl .u8, .sg, .sg]] suF), (18, entB [] nwF384)]) ⟨addr_ent ps _, sum_ent _, new384_ent _, trivial⟩
noncomputable def sz384O : List (Nat × Ent) := [(19, entB [.mu 63 [.ag .u64 8, .kp, .sg, .sg], .ro] a0rF), (20, entB [.rd [.ag .u64 8, .sl .u8, .sg, .sg]] suF), (18, entB [] nwF384)]
theorem sz384O_ok [G384] : OOK Tryd.prog sz384O := ook_of (l := [(19, entB [.mu 63 [.ag .u64 8, .kp, .sg, .sg], .ro] a0rF), (20, entB [.rd [.ag .u64 8, .sl .u8, .sg, .sg]] suF), (18, entB [] nwF384)]) ⟨add0r_ent _, sum_ent _, new384_ent _, trivial⟩
theorem sr384_run (κ : Nat → Value) (cap : Nat) (vs : List Value) (ps : List Pt) : runF tyT (sr384O ps) noH [] 0 [1] [2] fSr384 (bA [.ro cap vs] 0 0) (bH κ [.ro cap vs] 0 0) 1 [] = some ([.fin], { tm := tmL 12 [(2, .av (.one (.p 0 0)))], hp := [(0, ⟨0, 36, [.arr .u8 (keyL 48 (g2 (sumW (keyL 8 (g2 (abA kStart384 ([] ++ jn ps)))) (lf (arR [] ps ps.length)) ((0 : Int) + ((jn ps).length : Int)))))]⟩)], nx := 1, gl := [] }, [True, vs.length = vs.length, vs = pv ps ∧ ps ≠ [] ∧ PtsOK ps ∧ ps.length ≤ 2000000 ∧ 63 = 63 ∧ kStart384.length = 8 ∧ ([] : List Int).length + (jn ps).length ≤ 900000 ∧ (0 : Int) ≤ 0 ∧ (0 : Int) + (jn ps).length ≤ 1000000, 128 * KN (arR [] ps ps.length) + ((arR [] ps ps.length).length - 128 * KN (arR [] ps ps.length)) ≤ (arR [] ps ps.length).length, (keyL 8 (g2 (abA kStart384 ([] ++ jn ps)))).length = 8 ∧ (lf (arR [] ps ps.length)).length ≤ 1000 ∧ 0 ≤ ((0 : Int) + ((jn ps).length : Int)) ∧ ((0 : Int) + ((jn ps).length : Int)) ≤ 1000000 ∧ ((48 : Int) = 64 ∨ (48 : Int) = 48)]) := by kernel_rfl
theorem sz384_run (κ : Nat → Value) (cap : Nat) : runF tyT sz384O noH [] 0 [1] [2] fSr384 (bA [.ro cap []] 0 0) (bH κ [.ro cap []] 0 0) 1 [] = some ([.fin], { tm := tmL 12 [(2, .av (.one (.p 0 0)))], hp := [(0, ⟨0, 36, [.arr .u8 (keyL 48 (g2 (sumW kStart384 [] 0)))]⟩)], nx := 1, gl := [] }, [True, ([] : List Value).length = ([] : List Value).length, 63 = 63 ∧ kStart384.length = 8, kStart384.length = 8 ∧ ([] : List Int).length ≤ 1000 ∧ (0 : Int) ≤ 0 ∧ (0 : Int) ≤ 1000000 ∧ ((48 : Int) = 64 ∨ (48 : Int) = 48)]) := by kernel_rfl
def s384Fr (ps : List Pt) : List CB → Option BR
  | [.ro _ vs] => some { pre := vs = pv ps ∧ PtsOK ps ∧ ps.length ≤ 2000000 ∧ (jn ps).length ≤ 900000, val := .av (.one (.arr .u8 (keyL 48 (g2 (shaL kStart384 (jn ps)))))) }
  | _ => none
theorem s384_endsR [G384] (ps : List Pt) (cbs : List CB) (r : BR) (hF : s384Fr ps cbs = some r) (hp : r.pre) : EndsB Tryd.prog tyT [] fSr384 cbs r := by
  unfold s384Fr at hF
  split at hF
  · rename_i cap vs
    injection hF with hF
    subst hF
    obtain ⟨rfl, hps, hn, hl⟩ : vs = pv ps ∧ PtsOK ps ∧ ps.length ≤ 2000000 ∧ (jn ps).length ≤ 900000 := hp
    intro κ
    have h8 : kStart384.length = 8 := rfl
    by_cases hne : ps = []
    · subst hne
      have hrun := sz384_run κ cap
      rw [show ([] : List Int) = lf [] from rfl, show sumW kStart384 (lf []) 0 = shaL kStart384 [] from sumW_eq kStart384 [] 0 rfl] at hrun
      have h := FromK.run (m0 := 0) tyT_ok sz384O_ok mixed_ hrun ⟨trivial, rfl, ⟨rfl, h8⟩, ⟨h8, by decide, by decide, by decide, by decide⟩, trivial⟩
      exact ⟨[.fin], _, .av (.one (.arr .u8 (keyL 48 (g2 (shaL kStart384 (jn [])))))), [], .inr rfl, h, by kernel_rfl, by kernel_rfl, by kernel_rfl⟩
    · obtain ⟨i, hi⟩ : ∃ i, ps.length = i + 1 := ⟨ps.length - 1, by have := List.length_pos_iff.2 hne; omega⟩
      have hlf := arR_lf kStart384 [] ps i (by omega)
      rw [← hi, List.take_length, List.nil_append] at hlf
      have hrun := sr384_run κ cap (pv ps) ps
      rw [keyL_g2 (abA_len h8 _), List.nil_append, hlf, sumW_eq _ _ _ (by omega)] at hrun
      have h := FromK.run (m0 := 0) tyT_ok (sr384O_ok ps) mixed_ hrun ?_
      · exact ⟨[.fin], _, .av (.one (.arr .u8 (keyL 48 (g2 (shaL kStart384 (jn ps)))))), [], .inr rfl, h, by kernel_rfl, by kernel_rfl, by kernel_rfl⟩
      · have k1 := KN_le (arR [] ps ps.length)
        have m1 := lf_len (jn ps)
        refine ⟨trivial, rfl, ⟨rfl, hne, hps, hn, rfl, h8, by simpa using hl, by decide, by omega⟩, by omega, ⟨abA_len h8 _, by omega, by omega, by omega, by decide⟩, trivial⟩
  · cases hF
theorem s384_entR [G384] (ps : List Pt) (sh : List ShB) (hs : sh.length = 1 := by rfl) : EntOK Tryd.prog 26 (entB sh (s384Fr ps)) :=
  ok_B tyT_ok Tryd.func26 (by kernel_rfl) (by kernel_rfl) [] (fun x hx => by cases hx) (by rw [hs]; kernel_rfl) (s384_endsR ps)
end
end Go.Proofs.YtmhmfmnjdbehcaaDoor.Am
/- Law 02's Edges. Conditions: none. -/
namespace Go.Proofs.YtmhmfmnjdbehcaaDoor.Am
set_option linter.unusedVariables false
set_option linter.unusedSimpArgs false
open Go Go.RowKit
set_option linter.unusedSectionVars false
section
variable [GT] [GRnd]
noncomputable abbrev fAw2 : Func := Tryd.f15
noncomputable def awO : List (Nat × Ent) := [(17, entB [] nwF512), (23, entB [.rd [.ag .u64 8, .kp, .sg, .sg]] leF), (20, entB [.rd [.ag .u64 8, .sl .u8, .sg, .sg]] suF)]
theorem awO_ok [G512] : OOK Tryd.prog awO := ook_of (l := [(17, entB [] nwF512), (23, entB [.rd [.ag .u64 8, .kp, .sg, .sg]] leF), (20, entB [.rd [.ag .u64 8, .sl .u8, .sg, .sg]] suF)]) ⟨new512_ent _, len_ent _, sum_ent _, trivial⟩
noncomputable def eAwake2 : Ent := inl tyT awO noH [] 2000 Tryd.f15 []
theorem awake2_ent [G512] : EntOK Tryd.prog 15 eAwake2 := inl_ok tyT_ok awO_ok mixed_ Tryd.func15 (by kernel_rfl) (by kernel_rfl) _
noncomputable abbrev fEd : Func := Tryd.f7
noncomputable def edO : List (Nat × Ent) := [(15, eAwake2), (25, entB [.rs [.sl .u8]] s512F1), (26, entB [.rs [.sl .u8]] s384F1), (21, entB [.sl .u8] loF), (22, entB [.sl .u8] srF)]
theorem edO_ok [G512] [G384] : OOK Tryd.prog edO := ook_of (l := [(15, eAwake2), (25, entB [.rs [.sl .u8]] s512F1), (26, entB [.rs [.sl .u8]] s384F1), (21, entB [.sl .u8] loF), (22, entB [.sl .u8] srF)]) ⟨awake2_ent, s512_ent1 _, s384_ent1 _, Long_ent _, Short_ent _, trivial⟩
def edA (n m : Nat) : List SV := [ofV (.int .u8 n), ofV (.int .u8 m)]
noncomputable def edE : St := { tm := tmL 38 [(4, ofV (.bool true))], hp := [], nx := 0, gl := [] }
theorem ed_run (n m : Nat) : runF tyT edO (atH 3 5 (isI .i64 ((128 * (m % 3) : Nat) : Int)) (atH 3 6 (isI .i64 ((n + 128 * (m % 3) : Nat) : Int)) (atH 3 7 symH (atH 5 5 (isB true) (atH 5 12 (isB true) noH))))) [] 0 [] [4] fEd (edA n m) [] 0 [] = some ([.fin], edE, [True, kStart512.length = 8, kStart512.length = 8 ∧ ([] : List Int).length ≤ 1000 ∧ (0 : Int) ≤ 0 ∧ (0 : Int) ≤ 1000000 ∧ ((64 : Int) = 64 ∨ (64 : Int) = 48), tI .i64 (IntKind.wrap .i64 (128 * IntKind.wrap .i64 (Int.tmod m 3))) ((128 * (m % 3) : Nat) : Int), tI .i64 (IntKind.wrap .i64 (IntKind.wrap .i64 (n : Int) + ((128 * (m % 3) : Nat) : Int))) ((n + 128 * (m % 3) : Nat) : Int), (0 : Int) ≤ ((n + 128 * (m % 3) : Nat) : Int) ∧ (n + 128 * (m % 3)) ≤ okSize, (0 : Int) ≤ ((n + 128 * (m % 3) : Nat) : Int) ∧ (n + 128 * (m % 3)) ≤ okSize, (n + 128 * (m % 3)) * 2 ≤ 140737488355328, (n + 128 * (m % 3)) = (n + 128 * (m % 3)), 0 + (n + 128 * (m % 3)) ≤ (List.replicate (n + 128 * (m % 3)) (0 : Int)).length ∧ (n + 128 * (m % 3)) ≤ (n + 128 * (m % 3)), (cutI (List.replicate (n + 128 * (m % 3)) 0) 0 (n + 128 * (m % 3))).length ≤ 900000, 0 + (n + 128 * (m % 3)) ≤ (List.replicate (n + 128 * (m % 3)) (0 : Int)).length ∧ (n + 128 * (m % 3)) ≤ (n + 128 * (m % 3)), (cutI (List.replicate (n + 128 * (m % 3)) 0) 0 (n + 128 * (m % 3))).length ≤ 900000, 0 + (n + 128 * (m % 3)) ≤ (List.replicate (n + 128 * (m % 3)) (0 : Int)).length ∧ (n + 128 * (m % 3)) ≤ (n + 128 * (m % 3)), isBs (cutI (List.replicate (n + 128 * (m % 3)) 0) 0 (n + 128 * (m % 3))) ∧ (cutI (List.replicate (n + 128 * (m % 3)) 0) 0 (n + 128 * (m % 3))).length ≤ 900000, tB ((strOf (keyL 64 (g2 (shaL kStart512 (cutI (List.replicate (n + 128 * (m % 3)) 0) 0 (n + 128 * (m % 3))))))).toList == (strOf (keyL 64 (g2 (shaL kStart512 (cutI (List.replicate (n + 128 * (m % 3)) 0) 0 (n + 128 * (m % 3))))))).toList) true, 0 + (n + 128 * (m % 3)) ≤ (List.replicate (n + 128 * (m % 3)) (0 : Int)).length ∧ (n + 128 * (m % 3)) ≤ (n + 128 * (m % 3)), isBs (cutI (List.replicate (n + 128 * (m % 3)) 0) 0 (n + 128 * (m % 3))) ∧ (cutI (List.replicate (n + 128 * (m % 3)) 0) 0 (n + 128 * (m % 3))).length ≤ 900000, tB ((strOf (keyL 48 (g2 (shaL kStart384 (cutI (List.replicate (n + 128 * (m % 3)) 0) 0 (n + 128 * (m % 3))))))).toList == (strOf (keyL 48 (g2 (shaL kStart384 (cutI (List.replicate (n + 128 * (m % 3)) 0) 0 (n + 128 * (m % 3))))))).toList) true]) := by kernel_rfl
theorem ed_from [G512] [G384] (n m : Nat) (hn : n < 256) (hm : m < 256) : From Tryd.prog fEd (edA n m) [] 0 [] [.fin] edE := by
  refine From.run tyT_ok edO_ok mixed_ (ed_run n m) ?_
  have e1 : Int.tmod (m : Int) 3 = ((m % 3 : Nat) : Int) := by
    rw [Int.tmod_eq_emod_of_nonneg (by omega)]
    omega
  have hz : isBs (cutI (List.replicate (n + 128 * (m % 3)) 0) 0 (n + 128 * (m % 3))) := isBs_cut _ _ (fun z hz => by rw [(List.mem_replicate.1 hz).2]; exact ⟨by decide, by decide⟩)
  have hl : (cutI (List.replicate (n + 128 * (m % 3)) 0) 0 (n + 128 * (m % 3))).length = (n + 128 * (m % 3)) := by
    rw [cutI_eq, List.length_take, List.length_drop, List.length_replicate]
    omega
  have w1 := w64 (z := ((m % 3 : Nat) : Int)) (by omega) (by omega)
  have w2 := w64 (z := ((n : Nat) : Int)) (by omega) (by omega)
  have w3 := w64 (z := 128 * ((m % 3 : Nat) : Int)) (by omega) (by omega)
  have w4 := w64 (z := ((n : Nat) : Int) + ((128 * (m % 3) : Nat) : Int)) (by omega) (by omega)
  have ho : okSize = 140737488355328 := rfl
  rw [e1, w1, w2, w3, w4, hl, ho]
  simp only [allP_cons, allP_nil, and_true, true_and, tI_iff, tB_iff, beq_self_eq_true, List.length_replicate, hz, List.length_nil, true_or]
  refine ⟨rfl, ⟨rfl, ?_⟩, ?_⟩ <;> omega
theorem lawEdges_fact [G512] [G384] (n m : Int) (wn : (Lit.int .u8 n).wf = true) (wm : (Lit.int .u8 m).wf = true) {W : World} (hgw : GWok W.heap.size [] W) : Calls Tryd.prog 7 #[.int .u8 n, .int .u8 m] W fun e w' => e = .returned (.bool true) ∧ Below W.heap.size W w' := by
  have hG := hr_rows [] (fun x hx => absurd hx List.not_mem_nil) hgw
  obtain ⟨h1, h2⟩ := bounds_u8 wn
  obtain ⟨h3, h4⟩ := bounds_u8 wm
  obtain ⟨a, rfl⟩ : ∃ a : Nat, n = a := ⟨n.toNat, by omega⟩
  obtain ⟨b, rfl⟩ : ∃ b : Nat, m = b := ⟨m.toNat, by omega⟩
  have := law_reach Tryd.func7 (ed_from a b (by omega) (by omega)) (.inr rfl) (by kernel_rfl) (by kernel_rfl) (by kernel_rfl) hG
  exact this
end
end Go.Proofs.YtmhmfmnjdbehcaaDoor.Am
/- Law 02's Shorts and Longs. Conditions: none. -/
namespace Go.Proofs.YtmhmfmnjdbehcaaDoor.Am
set_option linter.unusedVariables false
set_option linter.unusedSimpArgs false
open Go Go.RowKit
set_option linter.unusedSectionVars false
section
variable [GT] [GRnd]
noncomputable def eFewT (ps : List Pt) : Ent := inl tyT (fewO ps) (atH 1 2 (isB true) (atH 1 7 (isB true) noH)) [] 2000 Tryd.f16 []
theorem fewT_ent (ps : List Pt) : EntOK Tryd.prog 16 (eFewT ps) := inl_ok tyT_ok (fewO_ok ps) mixed_ Tryd.func16 (by kernel_rfl) (by kernel_rfl) _
noncomputable def eFewA (ps : List Pt) : Ent := inl tyT (fewO ps) (atH 1 2 (isB false) noH) [] 2000 Tryd.f16 []
theorem fewA_ent (ps : List Pt) : EntOK Tryd.prog 16 (eFewA ps) := inl_ok tyT_ok (fewO_ok ps) mixed_ Tryd.func16 (by kernel_rfl) (by kernel_rfl) _
noncomputable def eFewB (ps : List Pt) : Ent := inl tyT (fewO ps) (atH 1 2 (isB true) (atH 1 7 (isB false) noH)) [] 2000 Tryd.f16 []
theorem fewB_ent (ps : List Pt) : EntOK Tryd.prog 16 (eFewB ps) := inl_ok tyT_ok (fewO_ok ps) mixed_ Tryd.func16 (by kernel_rfl) (by kernel_rfl) _
def lvA (vs : List Value) (cap : Nat) : List SV := [.av (.one (.s 0 0 vs.length cap))]
def lvP (vs : List Value) : List (Nat × Blk) := [(0, ⟨2, 0, [.vs vs]⟩)]
theorem hr_vs {w : World} (a : Option Addr) (cap : Nat) (vs : List Value) (h1 : vs.length ≤ cap) (h2 : vs = [] ∨ ∃ x, a = some x ∧ ∀ j u, vs[j]? = some u → w.cell? (x.add j) = some u) (h3 : ∀ x, a = some x → x.block < w.heap.size) (hgw : GWok w.heap.size [] w) : HR (fun _ => ⟨a, cap⟩) (· < 1) w.heap.size [] (look (lvP vs)) w := by
  have hall : ∀ i b, look (lvP vs) i = some b → i = 0 ∧ b = ⟨2, 0, [.vs vs]⟩ := fun i b hb => by
    unfold lvP at hb
    simp only [look_cons] at hb
    by_cases hi : (0 : Nat) = i
    · rw [if_pos hi] at hb
      injection hb with hb
      exact ⟨hi.symm, hb.symm⟩
    · rw [if_neg hi] at hb
      cases hb
  refine ⟨Nat.le_refl _, fun i b hb => ?_, fun i b x hb hx => ?_, fun i b x hb hk hx => ?_, fun i j bi bj x y hi hj hij hk hx hy => ?_, hgw⟩
  · obtain ⟨rfl, rfl⟩ := hall i b hb
    refine ⟨Nat.one_pos, fun s hs => (by simp at hs; subst hs; trivial), ?_⟩
    show (segsVals _ _).length ≤ _ ∧ _
    rw [segsVals_one]
    exact ⟨h1, h2⟩
  · exact h3 x hx
  · obtain ⟨rfl, rfl⟩ := hall i b hb
    simp at hk
  · obtain ⟨rfl, rfl⟩ := hall i bi hi
    simp at hk
noncomputable abbrev fL_sh : Func := Tryd.f6
noncomputable def shOT (ps : List Pt) : List (Nat × Ent) := [(15, eAwake2), (16, eFewT ps), (24, entB [.ro] (jF ps)), (26, entB [.ro] (s384Fr ps)), (22, entB [.sl .u8] srF)]
theorem shOT_ok [G512] [G384] (ps : List Pt) : OOK Tryd.prog (shOT ps) := ook_of (l := [(15, eAwake2), (16, eFewT ps), (24, entB [.ro] (jF ps)), (26, entB [.ro] (s384Fr ps)), (22, entB [.sl .u8] srF)]) ⟨awake2_ent, fewT_ent ps, joined_ent ps _, s384_entR ps _, Short_ent _, trivial⟩
noncomputable def shOA (ps : List Pt) : List (Nat × Ent) := [(15, eAwake2), (16, eFewA ps), (24, entB [.ro] (jF ps)), (26, entB [.ro] (s384Fr ps)), (22, entB [.sl .u8] srF)]
theorem shOA_ok [G512] [G384] (ps : List Pt) : OOK Tryd.prog (shOA ps) := ook_of (l := [(15, eAwake2), (16, eFewA ps), (24, entB [.ro] (jF ps)), (26, entB [.ro] (s384Fr ps)), (22, entB [.sl .u8] srF)]) ⟨awake2_ent, fewA_ent ps, joined_ent ps _, s384_entR ps _, Short_ent _, trivial⟩
noncomputable def shOB (ps : List Pt) : List (Nat × Ent) := [(15, eAwake2), (16, eFewB ps), (24, entB [.ro] (jF ps)), (26, entB [.ro] (s384Fr ps)), (22, entB [.sl .u8] srF)]
theorem shOB_ok [G512] [G384] (ps : List Pt) : OOK Tryd.prog (shOB ps) := ook_of (l := [(15, eAwake2), (16, eFewB ps), (24, entB [.ro] (jF ps)), (26, entB [.ro] (s384Fr ps)), (22, entB [.sl .u8] srF)]) ⟨awake2_ent, fewB_ent ps, joined_ent ps _, s384_entR ps _, Short_ent _, trivial⟩
def shE (vs : List Value) : St := { tm := tmL 21 [(2, ofV (.bool true))], hp := lvP vs, nx := 1, gl := [] }
theorem sh_main (vs : List Value) (cap : Nat) (ps : List Pt) : runF tyT (shOT ps) (atH 4 6 (isB true) noH) [] 1 [] [2] fL_sh (lvA vs cap) (lvP vs) 1 [] = some ([.fin], shE vs, [True, kStart512.length = 8, kStart512.length = 8 ∧ ([] : List Int).length ≤ 1000 ∧ (0 : Int) ≤ 0 ∧ (0 : Int) ≤ 1000000 ∧ ((64 : Int) = 64 ∨ (64 : Int) = 48), tB (decide ((vs.length : Int) ≤ 20)) true, vs.length = vs.length, vs = pv ps ∧ PtsOK ps ∧ (jn ps).length ≤ 2000000 ∧ ps.length ≤ 2000000, tB (decide (((jn ps).length : Int) ≤ 600)) true, vs.length = vs.length, vs = pv ps ∧ PtsOK ps ∧ ps.length ≤ 2000000 ∧ (jn ps).length ≤ 900000, vs.length = vs.length, vs = pv ps ∧ PtsOK ps ∧ (jn ps).length ≤ 2000000 ∧ ps.length ≤ 2000000, 0 + (jn ps).length ≤ (jn ps).length, isBs (cutI (jn ps) 0 (jn ps).length) ∧ (cutI (jn ps) 0 (jn ps).length).length ≤ 900000, tB ((strOf (keyL 48 (g2 (shaL kStart384 (jn ps))))).toList == (strOf (keyL 48 (g2 (shaL kStart384 (cutI (jn ps) 0 (jn ps).length))))).toList) true]) := by kernel_rfl
theorem sh_longA (vs : List Value) (cap : Nat) (ps : List Pt) : runF tyT (shOA ps) noH [] 1 [] [2] fL_sh (lvA vs cap) (lvP vs) 1 [] = some ([.fin], shE vs, [True, kStart512.length = 8, kStart512.length = 8 ∧ ([] : List Int).length ≤ 1000 ∧ (0 : Int) ≤ 0 ∧ (0 : Int) ≤ 1000000 ∧ ((64 : Int) = 64 ∨ (64 : Int) = 48), tB (decide ((vs.length : Int) ≤ 20)) false, True, kStart512.length = 8, kStart512.length = 8 ∧ ([] : List Int).length ≤ 1000 ∧ (0 : Int) ≤ 0 ∧ (0 : Int) ≤ 1000000 ∧ ((64 : Int) = 64 ∨ (64 : Int) = 48)]) := by kernel_rfl
theorem sh_longB (vs : List Value) (cap : Nat) (ps : List Pt) : runF tyT (shOB ps) noH [] 1 [] [2] fL_sh (lvA vs cap) (lvP vs) 1 [] = some ([.fin], shE vs, [True, kStart512.length = 8, kStart512.length = 8 ∧ ([] : List Int).length ≤ 1000 ∧ (0 : Int) ≤ 0 ∧ (0 : Int) ≤ 1000000 ∧ ((64 : Int) = 64 ∨ (64 : Int) = 48), tB (decide ((vs.length : Int) ≤ 20)) true, vs.length = vs.length, vs = pv ps ∧ PtsOK ps ∧ (jn ps).length ≤ 2000000 ∧ ps.length ≤ 2000000, tB (decide (((jn ps).length : Int) ≤ 600)) false, True, kStart512.length = 8, kStart512.length = 8 ∧ ([] : List Int).length ≤ 1000 ∧ (0 : Int) ≤ 0 ∧ (0 : Int) ≤ 1000000 ∧ ((64 : Int) = 64 ∨ (64 : Int) = 48)]) := by kernel_rfl
noncomputable abbrev fL_lo : Func := Tryd.f5
noncomputable def loOT (ps : List Pt) : List (Nat × Ent) := [(15, eAwake2), (16, eFewT ps), (24, entB [.ro] (jF ps)), (25, entB [.ro] (s512Fr ps)), (21, entB [.sl .u8] loF)]
theorem loOT_ok [G512] (ps : List Pt) : OOK Tryd.prog (loOT ps) := ook_of (l := [(15, eAwake2), (16, eFewT ps), (24, entB [.ro] (jF ps)), (25, entB [.ro] (s512Fr ps)), (21, entB [.sl .u8] loF)]) ⟨awake2_ent, fewT_ent ps, joined_ent ps _, s512_entR ps _, Long_ent _, trivial⟩
noncomputable def loOA (ps : List Pt) : List (Nat × Ent) := [(15, eAwake2), (16, eFewA ps), (24, entB [.ro] (jF ps)), (25, entB [.ro] (s512Fr ps)), (21, entB [.sl .u8] loF)]
theorem loOA_ok [G512] (ps : List Pt) : OOK Tryd.prog (loOA ps) := ook_of (l := [(15, eAwake2), (16, eFewA ps), (24, entB [.ro] (jF ps)), (25, entB [.ro] (s512Fr ps)), (21, entB [.sl .u8] loF)]) ⟨awake2_ent, fewA_ent ps, joined_ent ps _, s512_entR ps _, Long_ent _, trivial⟩
noncomputable def loOB (ps : List Pt) : List (Nat × Ent) := [(15, eAwake2), (16, eFewB ps), (24, entB [.ro] (jF ps)), (25, entB [.ro] (s512Fr ps)), (21, entB [.sl .u8] loF)]
theorem loOB_ok [G512] (ps : List Pt) : OOK Tryd.prog (loOB ps) := ook_of (l := [(15, eAwake2), (16, eFewB ps), (24, entB [.ro] (jF ps)), (25, entB [.ro] (s512Fr ps)), (21, entB [.sl .u8] loF)]) ⟨awake2_ent, fewB_ent ps, joined_ent ps _, s512_entR ps _, Long_ent _, trivial⟩
def loE (vs : List Value) : St := { tm := tmL 31 [(2, ofV (.bool true))], hp := lvP vs, nx := 1, gl := [] }
theorem lo_main (vs : List Value) (cap : Nat) (ps : List Pt) : runF tyT (loOT ps) (atH 5 5 (isB true) (atH 5 9 symH (atH 5 11 symH (atH 5 12 (isB true) noH)))) [] 1 [] [2] fL_lo (lvA vs cap) (lvP vs) 1 [] = some ([.fin], loE vs, [True, kStart512.length = 8, kStart512.length = 8 ∧ ([] : List Int).length ≤ 1000 ∧ (0 : Int) ≤ 0 ∧ (0 : Int) ≤ 1000000 ∧ ((64 : Int) = 64 ∨ (64 : Int) = 48), tB (decide ((vs.length : Int) ≤ 20)) true, vs.length = vs.length, vs = pv ps ∧ PtsOK ps ∧ (jn ps).length ≤ 2000000 ∧ ps.length ≤ 2000000, tB (decide (((jn ps).length : Int) ≤ 600)) true, vs.length = vs.length, vs = pv ps ∧ PtsOK ps ∧ (jn ps).length ≤ 2000000 ∧ ps.length ≤ 2000000, vs.length = vs.length, vs = pv ps ∧ PtsOK ps ∧ ps.length ≤ 2000000 ∧ (jn ps).length ≤ 900000, 0 + (jn ps).length ≤ (jn ps).length, isBs (cutI (jn ps) 0 (jn ps).length) ∧ (cutI (jn ps) 0 (jn ps).length).length ≤ 900000, tB ((strOf (keyL 64 (g2 (shaL kStart512 (jn ps))))).toList == (strOf (keyL 64 (g2 (shaL kStart512 (cutI (jn ps) 0 (jn ps).length))))).toList) true, vs.length = vs.length, vs = pv ps ∧ PtsOK ps ∧ (jn ps).length ≤ 2000000 ∧ ps.length ≤ 2000000, 0 + (jn ps).length ≤ (jn ps).length, 0 + (jn ps).length ≤ (jn ps).length, tB ((strOf (List.take (jn ps).length (List.drop 0 (jn ps)) ++ [])).toList == (strOf (List.take (jn ps).length (List.drop 0 (jn ps)) ++ [])).toList) true]) := by kernel_rfl
theorem lo_longA (vs : List Value) (cap : Nat) (ps : List Pt) : runF tyT (loOA ps) noH [] 1 [] [2] fL_lo (lvA vs cap) (lvP vs) 1 [] = some ([.fin], loE vs, [True, kStart512.length = 8, kStart512.length = 8 ∧ ([] : List Int).length ≤ 1000 ∧ (0 : Int) ≤ 0 ∧ (0 : Int) ≤ 1000000 ∧ ((64 : Int) = 64 ∨ (64 : Int) = 48), tB (decide ((vs.length : Int) ≤ 20)) false, True, kStart512.length = 8, kStart512.length = 8 ∧ ([] : List Int).length ≤ 1000 ∧ (0 : Int) ≤ 0 ∧ (0 : Int) ≤ 1000000 ∧ ((64 : Int) = 64 ∨ (64 : Int) = 48)]) := by kernel_rfl
theorem lo_longB (vs : List Value) (cap : Nat) (ps : List Pt) : runF tyT (loOB ps) noH [] 1 [] [2] fL_lo (lvA vs cap) (lvP vs) 1 [] = some ([.fin], loE vs, [True, kStart512.length = 8, kStart512.length = 8 ∧ ([] : List Int).length ≤ 1000 ∧ (0 : Int) ≤ 0 ∧ (0 : Int) ≤ 1000000 ∧ ((64 : Int) = 64 ∨ (64 : Int) = 48), tB (decide ((vs.length : Int) ≤ 20)) true, vs.length = vs.length, vs = pv ps ∧ PtsOK ps ∧ (jn ps).length ≤ 2000000 ∧ ps.length ≤ 2000000, tB (decide (((jn ps).length : Int) ≤ 600)) false, True, kStart512.length = 8, kStart512.length = 8 ∧ ([] : List Int).length ≤ 1000 ∧ (0 : Int) ≤ 0 ∧ (0 : Int) ≤ 1000000 ∧ ((64 : Int) = 64 ∨ (64 : Int) = 48)]) := by kernel_rfl
theorem sh_ok [G512] [G384] (ps : List Pt) (hps : PtsOK ps) (hn : ps.length ≤ 2000000) (hj : (jn ps).length ≤ 2000000) (hb : isBs (jn ps)) (cap : Nat) : From Tryd.prog fL_sh (lvA (pv ps) cap) (lvP (pv ps)) 1 [] [.fin] (shE (pv ps)) := by
  have hJ : pv ps = pv ps ∧ PtsOK ps ∧ (jn ps).length ≤ 2000000 ∧ ps.length ≤ 2000000 := ⟨rfl, hps, hj, hn⟩
  by_cases h1 : ps.length ≤ 20
  · by_cases h2 : (jn ps).length ≤ 600
    · have h5 : pv ps = pv ps ∧ PtsOK ps ∧ ps.length ≤ 2000000 ∧ (jn ps).length ≤ 900000 := ⟨rfl, hps, hn, by omega⟩
      have hrun := sh_main (pv ps) cap ps
      rw [cutI_all] at hrun
      exact From.run tyT_ok (shOT_ok ps) mixed_ hrun ⟨trivial, rfl, ⟨rfl, by decide, by decide, by decide, by decide⟩, tB_le.2 (by rw [pv_len]; omega), rfl, hJ, tB_le.2 (by omega), rfl, h5, rfl, hJ, by omega, ⟨hb, by omega⟩, tB_iff.2 (beq_self_eq_true _), trivial⟩
    · exact From.run tyT_ok (shOB_ok ps) mixed_ (sh_longB (pv ps) cap ps) ⟨trivial, rfl, ⟨rfl, by decide, by decide, by decide, by decide⟩, tB_le.2 (by rw [pv_len]; omega), rfl, hJ, tB_nle.2 (by omega), trivial, rfl, ⟨rfl, by decide, by decide, by decide, by decide⟩, trivial⟩
  · exact From.run tyT_ok (shOA_ok ps) mixed_ (sh_longA (pv ps) cap ps) ⟨trivial, rfl, ⟨rfl, by decide, by decide, by decide, by decide⟩, tB_nle.2 (by rw [pv_len]; omega), trivial, rfl, ⟨rfl, by decide, by decide, by decide, by decide⟩, trivial⟩
theorem lawShorts_fact [G512] [G384] (ps : List Pt) (a : Option Addr) (cap : Nat) {W : World} (hgw : GWok W.heap.size [] W) (hps : PtsOK ps) (hn : ps.length ≤ 2000000) (hj : (jn ps).length ≤ 2000000) (hb : isBs (jn ps)) (h1 : ps.length ≤ cap) (h2 : pv ps = [] ∨ ∃ x, a = some x ∧ ∀ j u, (pv ps)[j]? = some u → W.cell? (x.add j) = some u) (h3 : ∀ x, a = some x → x.block < W.heap.size) : Calls Tryd.prog 6 #[.slice a ps.length cap] W fun e w' => e = .returned (.bool true) ∧ Below W.heap.size W w' := by
  have hG := hr_vs a cap (pv ps) (by rw [pv_len]; exact h1) h2 h3 hgw
  have := law_reach Tryd.func6 (sh_ok ps hps hn hj hb cap) (.inr rfl) (by kernel_rfl) (by kernel_rfl) (by kernel_rfl) hG
  simp only [lvA, List.map_cons, List.map_nil, conc_s0, pv_len] at this
  exact this
theorem lo_ok [G512] (ps : List Pt) (hps : PtsOK ps) (hn : ps.length ≤ 2000000) (hj : (jn ps).length ≤ 2000000) (hb : isBs (jn ps)) (cap : Nat) : From Tryd.prog fL_lo (lvA (pv ps) cap) (lvP (pv ps)) 1 [] [.fin] (loE (pv ps)) := by
  have hJ : pv ps = pv ps ∧ PtsOK ps ∧ (jn ps).length ≤ 2000000 ∧ ps.length ≤ 2000000 := ⟨rfl, hps, hj, hn⟩
  by_cases h1 : ps.length ≤ 20
  · by_cases h2 : (jn ps).length ≤ 600
    · have h5 : pv ps = pv ps ∧ PtsOK ps ∧ ps.length ≤ 2000000 ∧ (jn ps).length ≤ 900000 := ⟨rfl, hps, hn, by omega⟩
      have hrun := lo_main (pv ps) cap ps
      rw [cutI_all] at hrun
      exact From.run tyT_ok (loOT_ok ps) mixed_ hrun ⟨trivial, rfl, ⟨rfl, by decide, by decide, by decide, by decide⟩, tB_le.2 (by rw [pv_len]; omega), rfl, hJ, tB_le.2 (by omega), rfl, hJ, rfl, h5, by omega, ⟨hb, by omega⟩, tB_iff.2 (beq_self_eq_true _), rfl, hJ, by omega, by omega, tB_iff.2 (beq_self_eq_true _), trivial⟩
    · exact From.run tyT_ok (loOB_ok ps) mixed_ (lo_longB (pv ps) cap ps) ⟨trivial, rfl, ⟨rfl, by decide, by decide, by decide, by decide⟩, tB_le.2 (by rw [pv_len]; omega), rfl, hJ, tB_nle.2 (by omega), trivial, rfl, ⟨rfl, by decide, by decide, by decide, by decide⟩, trivial⟩
  · exact From.run tyT_ok (loOA_ok ps) mixed_ (lo_longA (pv ps) cap ps) ⟨trivial, rfl, ⟨rfl, by decide, by decide, by decide, by decide⟩, tB_nle.2 (by rw [pv_len]; omega), trivial, rfl, ⟨rfl, by decide, by decide, by decide, by decide⟩, trivial⟩
theorem lawLongs_fact [G512] (ps : List Pt) (a : Option Addr) (cap : Nat) {W : World} (hgw : GWok W.heap.size [] W) (hps : PtsOK ps) (hn : ps.length ≤ 2000000) (hj : (jn ps).length ≤ 2000000) (hb : isBs (jn ps)) (h1 : ps.length ≤ cap) (h2 : pv ps = [] ∨ ∃ x, a = some x ∧ ∀ j u, (pv ps)[j]? = some u → W.cell? (x.add j) = some u) (h3 : ∀ x, a = some x → x.block < W.heap.size) : Calls Tryd.prog 5 #[.slice a ps.length cap] W fun e w' => e = .returned (.bool true) ∧ Below W.heap.size W w' := by
  have hG := hr_vs a cap (pv ps) (by rw [pv_len]; exact h1) h2 h3 hgw
  have := law_reach Tryd.func5 (lo_ok ps hps hn hj hb cap) (.inr rfl) (by kernel_rfl) (by kernel_rfl) (by kernel_rfl) hG
  simp only [lvA, List.map_cons, List.map_nil, conc_s0, pv_len] at this
  exact this
end
end Go.Proofs.YtmhmfmnjdbehcaaDoor.Am
/- Law 02's Goes. Conditions: none. -/
namespace Go.Proofs.YtmhmfmnjdbehcaaDoor.Am
set_option linter.unusedVariables false
set_option linter.unusedSimpArgs false
open Go Go.RowKit
set_option linter.unusedSectionVars false
section
variable [GT] [GRnd]
noncomputable abbrev fL_go : Func := Tryd.f3
noncomputable def goOT (ps : List Pt) : List (Nat × Ent) := [(15, eAwake2), (16, eFewT ps), (24, entB [.ro] (jF ps)), (17, entB [] nwF512), (18, entB [] nwF384), (19, entB [.mu 63 [.ag .u64 8, .sl .u8, .sg, .sg], .rs [.sl .u8]] adF), (20, entB [.rd [.ag .u64 8, .sl .u8, .sg, .sg]] suF), (23, entB [.rd [.ag .u64 8, .kp, .sg, .sg]] leF), (21, entB [.sl .u8] loF), (22, entB [.sl .u8] srF)]
theorem goOT_ok [G512] [G384] (ps : List Pt) : OOK Tryd.prog (goOT ps) := ook_of (l := [(15, eAwake2), (16, eFewT ps), (24, entB [.ro] (jF ps)), (17, entB [] nwF512), (18, entB [] nwF384), (19, entB [.mu 63 [.ag .u64 8, .sl .u8, .sg, .sg], .rs [.sl .u8]] adF), (20, entB [.rd [.ag .u64 8, .sl .u8, .sg, .sg]] suF), (23, entB [.rd [.ag .u64 8, .kp, .sg, .sg]] leF), (21, entB [.sl .u8] loF), (22, entB [.sl .u8] srF)]) ⟨awake2_ent, fewT_ent ps, joined_ent ps _, new512_ent _, new384_ent _, add_ent _, sum_ent _, len_ent _, Long_ent _, Short_ent _, trivial⟩
noncomputable def goOA (ps : List Pt) : List (Nat × Ent) := [(15, eAwake2), (16, eFewA ps), (24, entB [.ro] (jF ps)), (17, entB [] nwF512), (18, entB [] nwF384), (19, entB [.mu 63 [.ag .u64 8, .sl .u8, .sg, .sg], .rs [.sl .u8]] adF), (20, entB [.rd [.ag .u64 8, .sl .u8, .sg, .sg]] suF), (23, entB [.rd [.ag .u64 8, .kp, .sg, .sg]] leF), (21, entB [.sl .u8] loF), (22, entB [.sl .u8] srF)]
theorem goOA_ok [G512] [G384] (ps : List Pt) : OOK Tryd.prog (goOA ps) := ook_of (l := [(15, eAwake2), (16, eFewA ps), (24, entB [.ro] (jF ps)), (17, entB [] nwF512), (18, entB [] nwF384), (19, entB [.mu 63 [.ag .u64 8, .sl .u8, .sg, .sg], .rs [.sl .u8]] adF), (20, entB [.rd [.ag .u64 8, .sl .u8, .sg, .sg]] suF), (23, entB [.rd [.ag .u64 8, .kp, .sg, .sg]] leF), (21, entB [.sl .u8] loF), (22, entB [.sl .u8] srF)]) ⟨awake2_ent, fewA_ent ps, joined_ent ps _, new512_ent _, new384_ent _, add_ent _, sum_ent _, len_ent _, Long_ent _, Short_ent _, trivial⟩
noncomputable def goOB (ps : List Pt) : List (Nat × Ent) := [(15, eAwake2), (16, eFewB ps), (24, entB [.ro] (jF ps)), (17, entB [] nwF512), (18, entB [] nwF384), (19, entB [.mu 63 [.ag .u64 8, .sl .u8, .sg, .sg], .rs [.sl .u8]] adF), (20, entB [.rd [.ag .u64 8, .sl .u8, .sg, .sg]] suF), (23, entB [.rd [.ag .u64 8, .kp, .sg, .sg]] leF), (21, entB [.sl .u8] loF), (22, entB [.sl .u8] srF)]
theorem goOB_ok [G512] [G384] (ps : List Pt) : OOK Tryd.prog (goOB ps) := ook_of (l := [(15, eAwake2), (16, eFewB ps), (24, entB [.ro] (jF ps)), (17, entB [] nwF512), (18, entB [] nwF384), (19, entB [.mu 63 [.ag .u64 8, .sl .u8, .sg, .sg], .rs [.sl .u8]] adF), (20, entB [.rd [.ag .u64 8, .sl .u8, .sg, .sg]] suF), (23, entB [.rd [.ag .u64 8, .kp, .sg, .sg]] leF), (21, entB [.sl .u8] loF), (22, entB [.sl .u8] srF)]) ⟨awake2_ent, fewB_ent ps, joined_ent ps _, new512_ent _, new384_ent _, add_ent _, sum_ent _, len_ent _, Long_ent _, Short_ent _, trivial⟩
def goA (vs : List Value) (cap : Nat) (b : Bool) : List SV := [.av (.one (.s 0 0 vs.length cap)), ofV (.bool b)]
def goE (vs : List Value) : St := { tm := tmL 84 [(4, ofV (.bool true))], hp := lvP vs, nx := 1, gl := [] }
def goS (vs : List Value) (cap : Nat) (b : Bool) (z : Int) (sf : Nat → Int) (R so : List Int) (ro rL rd L : Nat) (n i : Int) : St := { tm := tmL 84 [(1, ofV (.bool b)), (5, .av (.one (.p 1 0))), (6, .av (.one (.r 3 0 L 0))), (27, .av (.one (.s 0 0 vs.length cap))), (28, ofV (.int .i64 vs.length)), (29, ofV (.int .i64 i))], hp := [(0, ⟨2, 0, [.vs vs]⟩), (1, ⟨0, 63, [.arr .u64 (keyL 8 sf), .r 2 ro rL rd, .v (.int .i64 n), .v (.int .i64 z)]⟩), (2, ⟨1, 5, [.arr .u8 R]⟩), (3, ⟨1, 5, [.arr .u8 so]⟩)], nx := 4, gl := [] }
def goU (vs : List Value) (cap : Nat) (b : Bool) (z : Int) (sf : Nat → Int) (R so W : List Int) (ro rL rd L m : Nat) (n i j : Int) : St := { tm := tmL 84 [(1, ofV (.bool b)), (5, .av (.one (.p 1 0))), (6, .av (.one (.r 3 0 L 0))), (9, .av (.one (.r 4 0 m 0))), (27, .av (.one (.s 0 0 vs.length cap))), (28, ofV (.int .i64 vs.length)), (29, ofV (.int .i64 i)), (44, ofV (.int .i64 m)), (45, ofV (.int .i64 j))], hp := [(0, ⟨2, 0, [.vs vs]⟩), (1, ⟨0, 63, [.arr .u64 (keyL 8 sf), .r 2 ro rL rd, .v (.int .i64 n), .v (.int .i64 z)]⟩), (2, ⟨1, 5, [.arr .u8 R]⟩), (3, ⟨1, 5, [.arr .u8 so]⟩), (4, ⟨1, 5, [.arr .u8 W]⟩)], nx := 5, gl := [] }
def goV (vs : List Value) (cap : Nat) (b : Bool) (z : Int) (sf : Nat → Int) (R so W : List Int) (ro rL rd L m : Nat) (n i j : Int) : St := { tm := tmL 84 [(1, ofV (.bool b)), (5, .av (.one (.p 1 0))), (6, .av (.one (.r 3 0 L 0))), (11, .av (.one (.r 4 0 m 0))), (27, .av (.one (.s 0 0 vs.length cap))), (28, ofV (.int .i64 vs.length)), (29, ofV (.int .i64 i)), (75, ofV (.int .i64 m)), (76, ofV (.int .i64 j))], hp := [(0, ⟨2, 0, [.vs vs]⟩), (1, ⟨0, 63, [.arr .u64 (keyL 8 sf), .r 2 ro rL rd, .v (.int .i64 n), .v (.int .i64 z)]⟩), (2, ⟨1, 5, [.arr .u8 R]⟩), (3, ⟨1, 5, [.arr .u8 so]⟩), (4, ⟨1, 5, [.arr .u8 W]⟩)], nx := 5, gl := [] }
def goI0 (vs : List Value) (cap : Nat) (b : Bool) (z : Int) (sf : Nat → Int) (i : Int) : St := { tm := tmL 84 [(1, ofV (.bool b)), (5, .av (.one (.p 1 0))), (6, ofV (.slice none 0 0)), (27, .av (.one (.s 0 0 vs.length cap))), (28, ofV (.int .i64 vs.length)), (29, ofV (.int .i64 i))], hp := [(0, ⟨2, 0, [.vs vs]⟩), (1, ⟨0, 63, [.arr .u64 (keyL 8 sf), .v (.slice none 0 0), .v (.int .i64 0), .v (.int .i64 z)]⟩)], nx := 2, gl := [] }
def goI (vs : List Value) (cap : Nat) (b : Bool) (z : Int) (sf : Nat → Int) (i : Int) : St := { tm := tmL 84 [(1, ofV (.bool b)), (5, .av (.one (.p 1 0))), (6, .av (.one (.r 2 0 0 0))), (27, .av (.one (.s 0 0 vs.length cap))), (28, ofV (.int .i64 vs.length)), (29, ofV (.int .i64 i))], hp := [(0, ⟨2, 0, [.vs vs]⟩), (1, ⟨0, 63, [.arr .u64 (keyL 8 sf), .v (.slice none 0 0), .v (.int .i64 0), .v (.int .i64 z)]⟩), (2, ⟨1, 5, [.arr .u8 []]⟩)], nx := 3, gl := [] }
theorem go_startf (vs : List Value) (cap : Nat) (ps : List Pt) : runF tyT (goOT ps) noH [] 1 [1] [1, 5, 6, 27, 28, 29] fL_go (goA vs cap false) (lvP vs) 1 [] = some (toAt fL_go 10 [], goI0 vs cap false 64 (g2 kStart512) 0, [True, kStart512.length = 8, kStart512.length = 8 ∧ ([] : List Int).length ≤ 1000 ∧ (0 : Int) ≤ 0 ∧ (0 : Int) ≤ 1000000 ∧ ((64 : Int) = 64 ∨ (64 : Int) = 48), tB (decide ((vs.length : Int) ≤ 20)) true, vs.length = vs.length, vs = pv ps ∧ PtsOK ps ∧ (jn ps).length ≤ 2000000 ∧ ps.length ≤ 2000000, tB (decide (((jn ps).length : Int) ≤ 600)) true, True]) := by kernel_rfl
theorem go_startt (vs : List Value) (cap : Nat) (ps : List Pt) : runF tyT (goOT ps) noH [] 1 [2] [1, 5, 6, 27, 28, 29] fL_go (goA vs cap true) (lvP vs) 1 [] = some (toAt fL_go 10 [], goI0 vs cap true 48 (g2 kStart384) 0, [True, kStart512.length = 8, kStart512.length = 8 ∧ ([] : List Int).length ≤ 1000 ∧ (0 : Int) ≤ 0 ∧ (0 : Int) ≤ 1000000 ∧ ((64 : Int) = 64 ∨ (64 : Int) = 48), tB (decide ((vs.length : Int) ≤ 20)) true, vs.length = vs.length, vs = pv ps ∧ PtsOK ps ∧ (jn ps).length ≤ 2000000 ∧ ps.length ≤ 2000000, tB (decide (((jn ps).length : Int) ≤ 600)) true, True, True]) := by kernel_rfl
theorem go_longA (vs : List Value) (cap : Nat) (ps : List Pt) (b : Bool) : runF tyT (goOA ps) noH [] 1 [] [4] fL_go (goA vs cap b) (lvP vs) 1 [] = some ([.fin], goE vs, [True, kStart512.length = 8, kStart512.length = 8 ∧ ([] : List Int).length ≤ 1000 ∧ (0 : Int) ≤ 0 ∧ (0 : Int) ≤ 1000000 ∧ ((64 : Int) = 64 ∨ (64 : Int) = 48), tB (decide ((vs.length : Int) ≤ 20)) false, True, kStart512.length = 8, kStart512.length = 8 ∧ ([] : List Int).length ≤ 1000 ∧ (0 : Int) ≤ 0 ∧ (0 : Int) ≤ 1000000 ∧ ((64 : Int) = 64 ∨ (64 : Int) = 48)]) := by kernel_rfl
theorem go_longB (vs : List Value) (cap : Nat) (ps : List Pt) (b : Bool) : runF tyT (goOB ps) noH [] 1 [] [4] fL_go (goA vs cap b) (lvP vs) 1 [] = some ([.fin], goE vs, [True, kStart512.length = 8, kStart512.length = 8 ∧ ([] : List Int).length ≤ 1000 ∧ (0 : Int) ≤ 0 ∧ (0 : Int) ≤ 1000000 ∧ ((64 : Int) = 64 ∨ (64 : Int) = 48), tB (decide ((vs.length : Int) ≤ 20)) true, vs.length = vs.length, vs = pv ps ∧ PtsOK ps ∧ (jn ps).length ≤ 2000000 ∧ ps.length ≤ 2000000, tB (decide (((jn ps).length : Int) ≤ 600)) false, True, kStart512.length = 8, kStart512.length = 8 ∧ ([] : List Int).length ≤ 1000 ∧ (0 : Int) ≤ 0 ∧ (0 : Int) ≤ 1000000 ∧ ((64 : Int) = 64 ∨ (64 : Int) = 48)]) := by kernel_rfl
theorem go_end (vs : List Value) (cap : Nat) (ps : List Pt) (b : Bool) (z : Int) (sf : Nat → Int) (R so : List Int) (ro rL rd L : Nat) (n : Int) (i k_ : Nat) : runN tyT (goOT ps) (atH 10 0 (isB false) noH) [] 2000 1 [] [4] (inAt fL_go 10 [] k_) (goS vs cap b z sf R so ro rL rd L n i) = some ([.fin], goE vs, [tB (decide ((i : Int) < (vs.length : Int))) false]) := by kernel_rfl
theorem go_endI (vs : List Value) (cap : Nat) (ps : List Pt) (b : Bool) (z : Int) (sf : Nat → Int) (i k_ : Nat) : runN tyT (goOT ps) (atH 10 0 (isB false) noH) [] 2000 1 [] [4] (inAt fL_go 10 [] k_) (goI vs cap b z sf i) = some ([.fin], goE vs, [tB (decide ((i : Int) < (vs.length : Int))) false]) := by kernel_rfl
theorem go_in (vs : List Value) (cap : Nat) (ps : List Pt) (b : Bool) (z : Int) (sf : Nat → Int) (R so : List Int) (ro rL rd L : Nat) (n : Int) (i k_ : Nat) (p : List Int) (a : Option Addr) (c : Nat) : runN tyT (goOT ps) (atH 10 0 (isB true) (atH 11 0 symH (atH 11 1 (ldH a c p) (atH 12 2 symH (atH 14 2 symH noH))))) [] 2000 1 [1, 8, 9, 6] [1, 5, 6, 9, 27, 28, 29, 44, 45] (inAt fL_go 10 [] k_) (goS vs cap b z sf R so ro rL rd L n i) = some (toAt fL_go 16 [k_], goU vs cap b z (g2 (abA (keyL 8 sf) ((cutI R ro rL) ++ (cutI (List.take p.length p) 0 (0 + p.length))))) ((cutI R ro rL) ++ (cutI (List.take p.length p) 0 (0 + p.length))) (so ++ List.take p.length p) (List.take p.length p) (128 * KN ((cutI R ro rL) ++ (cutI (List.take p.length p) 0 (0 + p.length)))) (((cutI R ro rL) ++ (cutI (List.take p.length p) 0 (0 + p.length))).length - 128 * KN ((cutI R ro rL) ++ (cutI (List.take p.length p) 0 (0 + p.length)))) (128 * (KN ((cutI R ro rL) ++ (cutI (List.take p.length p) 0 (0 + p.length))) - 1)) (widths [Seg.arr .u8 so] + p.length) (0 + p.length) (n + ((cutI (List.take p.length p) 0 (0 + p.length)).length : Int)) i 0, [tB (decide ((i : Int) < (vs.length : Int))) true, 0 + vs.length ≤ widths [Seg.vs vs], 0 ≤ (i : Int) ∧ (i : Int).toNat ≤ vs.length - 1, 1 ≤ vs.length, ∀ ρ : Nat → Loc, (segsVals ρ [Seg.vs vs])[i]? = some (.slice a p.length c), TabRow GT.tab a p.length c .u8 p, 0 = widths [] ∧ 0 = widths [], 0 + p.length ≤ widths [Seg.arr .u8 p], (0 + p.length) * 2 ≤ 140737488355328, ro + rL ≤ R.length, 0 + (0 + p.length) ≤ (List.take p.length p).length, 63 = 63 ∧ (keyL 8 sf).length = 8 ∧ (cutI R ro rL).length + (cutI (List.take p.length p) 0 (0 + p.length)).length ≤ 900000 ∧ 0 ≤ n ∧ n ≤ 1000000, L = widths [Seg.arr .u8 so], 0 + p.length ≤ widths [Seg.arr .u8 p], (widths [Seg.arr .u8 so] + p.length) * 2 ≤ 140737488355328]) := by kernel_rfl
theorem go_inI (vs : List Value) (cap : Nat) (ps : List Pt) (b : Bool) (z : Int) (sf : Nat → Int) (i k_ : Nat) (p : List Int) (a : Option Addr) (c : Nat) : runN tyT (goOT ps) (atH 10 0 (isB true) (atH 11 0 symH (atH 11 1 (ldH a c p) (atH 12 2 symH (atH 14 2 symH noH))))) [] 2000 1 [1, 7, 8, 5] [1, 5, 6, 9, 27, 28, 29, 44, 45] (inAt fL_go 10 [] k_) (goI vs cap b z sf i) = some (toAt fL_go 16 [k_], goU vs cap b z (g2 (abA (keyL 8 sf) (([] : List Int) ++ (cutI (List.take p.length p) 0 (0 + p.length))))) (([] : List Int) ++ (cutI (List.take p.length p) 0 (0 + p.length))) (([] : List Int) ++ List.take p.length p) (List.take p.length p) (128 * KN (([] : List Int) ++ (cutI (List.take p.length p) 0 (0 + p.length)))) ((([] : List Int) ++ (cutI (List.take p.length p) 0 (0 + p.length))).length - 128 * KN (([] : List Int) ++ (cutI (List.take p.length p) 0 (0 + p.length)))) (128 * (KN (([] : List Int) ++ (cutI (List.take p.length p) 0 (0 + p.length))) - 1)) (0 + p.length) (0 + p.length) ((0 : Int) + ((cutI (List.take p.length p) 0 (0 + p.length)).length : Int)) i 0, [tB (decide ((i : Int) < (vs.length : Int))) true, 0 + vs.length ≤ widths [Seg.vs vs], 0 ≤ (i : Int) ∧ (i : Int).toNat ≤ vs.length - 1, 1 ≤ vs.length, ∀ ρ : Nat → Loc, (segsVals ρ [Seg.vs vs])[i]? = some (.slice a p.length c), TabRow GT.tab a p.length c .u8 p, 0 = widths [] ∧ 0 = widths [], 0 + p.length ≤ widths [Seg.arr .u8 p], (0 + p.length) * 2 ≤ 140737488355328, 0 + (0 + p.length) ≤ (List.take p.length p).length, 63 = 63 ∧ (keyL 8 sf).length = 8 ∧ ([] : List Int).length + (cutI (List.take p.length p) 0 (0 + p.length)).length ≤ 900000 ∧ 0 ≤ (0 : Int) ∧ (0 : Int) ≤ 1000000, 0 = 0, 0 + p.length ≤ widths [Seg.arr .u8 p], (0 + p.length) * 2 ≤ 140737488355328]) := by kernel_rfl
theorem go_x (vs : List Value) (cap : Nat) (ps : List Pt) (b : Bool) (z : Int) (sf : Nat → Int) (R so W : List Int) (ro rL rd L m : Nat) (n : Int) (i j j_ k_ : Nat) : runN tyT (goOT ps) (atH 16 0 (isB true) (atH 18 2 symH (atH 18 3 symH (atH 18 5 symH (atH 18 6 symH (atH 19 0 (isI .i64 ((j + 1 : Nat) : Int)) noH)))))) [] 2000 1 [1, 2, 3, 4] [1, 5, 6, 9, 27, 28, 29, 44, 45] (inAt fL_go 16 [j_] k_) (goU vs cap b z sf R so W ro rL rd L m n i j) = some (hdAt fL_go 16 [j_] k_, goU vs cap b z sf R so (List.set W j (ixor .u8 (List.getD W j 0) 1)) ro rL rd L m n i ((j + 1 : Nat) : Int), [tB (decide ((j : Int) < (m : Int))) true, 0 + m ≤ widths [Seg.arr .u8 W], 0 ≤ (j : Int) ∧ (j : Int).toNat ≤ m - 1, 1 ≤ m, j < W.length, 0 + m ≤ widths [Seg.arr .u8 W], 0 ≤ (j : Int) ∧ (j : Int).toNat ≤ m - 1, 1 ≤ m, j < W.length, tI .i64 (IntKind.wrap .i64 ((j : Int) + 1)) ((j + 1 : Nat) : Int)]) := by kernel_rfl
theorem go_d (vs : List Value) (cap : Nat) (ps : List Pt) (b : Bool) (z : Int) (sf : Nat → Int) (R so W : List Int) (ro rL rd L m : Nat) (n : Int) (i j j_ k_ : Nat) : runN tyT (goOT ps) (atH 27 0 (isB true) (atH 29 2 symH (atH 29 3 symH (atH 30 0 (isI .i64 ((j + 1 : Nat) : Int)) noH)))) [] 2000 1 [1, 2, 3, 4] [1, 5, 6, 11, 27, 28, 29, 75, 76] (inAt fL_go 27 [j_] k_) (goV vs cap b z sf R so W ro rL rd L m n i j) = some (hdAt fL_go 27 [j_] k_, goV vs cap b z sf R so (List.set W j 7) ro rL rd L m n i ((j + 1 : Nat) : Int), [tB (decide ((j : Int) < (m : Int))) true, 0 + m ≤ widths [Seg.arr .u8 W], 0 ≤ (j : Int) ∧ (j : Int).toNat ≤ m - 1, 1 ≤ m, j < W.length, tI .i64 (IntKind.wrap .i64 ((j : Int) + 1)) ((j + 1 : Nat) : Int)]) := by kernel_rfl
theorem go_e (vs : List Value) (cap : Nat) (ps : List Pt) (b : Bool) (z : Int) (sf : Nat → Int) (R so W : List Int) (ro rL rd L m : Nat) (n : Int) (i j j_ k_ : Nat) : runN tyT (goOT ps) (atH 27 0 (isB false) (atH 31 0 (isI .i64 ((i + 1 : Nat) : Int)) noH)) [] 2000 1 [1, 2, 3] [1, 5, 6, 27, 28, 29] (inAt fL_go 27 [j_] k_) (goV vs cap b z sf R so W ro rL rd L m n i j) = some (hdAt fL_go 10 [] j_, goS vs cap b z sf R so ro rL rd L n ((i + 1 : Nat) : Int), [tB (decide ((j : Int) < (m : Int))) false, tI .i64 (IntKind.wrap .i64 ((i : Int) + 1)) ((i + 1 : Nat) : Int)]) := by kernel_rfl
theorem go_cf (vs : List Value) (cap : Nat) (ps : List Pt) (sf : Nat → Int) (R so W : List Int) (ro rL rd L m : Nat) (n : Int) (i j j_ k_ : Nat) : runN tyT (goOT ps) (atH 16 0 (isB false) (atH 24 1 symH (atH 24 4 (isB false) (atH 24 10 (isB false) noH)))) [] 2000 1 [1, 2, 3, 5] [1, 5, 6, 11, 27, 28, 29, 75, 76] (inAt fL_go 16 [j_] k_) (goU vs cap false 64 sf R so W ro rL rd L m n i j) = some (toAt fL_go 27 [j_], goV vs cap false 64 sf R so (sumW (keyL 8 sf) (cutI R ro rL) n) ro rL rd L 64 n i 0, [tB (decide ((j : Int) < (m : Int))) false, ro + rL ≤ R.length, (keyL 8 sf).length = 8 ∧ (cutI R ro rL).length ≤ 1000 ∧ 0 ≤ n ∧ n ≤ 1000000 ∧ ((64 : Int) = 64 ∨ (64 : Int) = 48), 0 + L ≤ so.length, isBs (cutI so 0 L) ∧ (cutI so 0 L).length ≤ 900000, 64 ≤ widths [Seg.arr .u8 (sumW (keyL 8 sf) (cutI R ro rL) n)], tB (!((strOf (List.take 64 (List.drop 0 (sumW (keyL 8 sf) (cutI R ro rL) n)) ++ [])).toList == (strOf (keyL 64 (g2 (shaL kStart512 (cutI so 0 L))))).toList)) false, (keyL 8 sf).length = 8, tB (n != ((L : Nat) : Int)) false]) := by kernel_rfl
theorem go_zf (vs : List Value) (cap : Nat) (ps : List Pt) (sf : Nat → Int) (R so : List Int) (ro rL rd L : Nat) (n : Int) (i k_ : Nat) (a : Option Addr) : runN tyT (goOT ps) (atH 10 0 (isB true) (atH 11 0 symH (atH 11 1 (ldZ a) (atH 12 2 symH (atH 14 2 symH (atH 24 1 symH (atH 24 4 (isB false) (atH 24 10 (isB false) noH)))))))) [(16, 1)] 2000 1 [1, 6, 3, 7] [1, 5, 6, 11, 27, 28, 29, 75, 76] (inAt fL_go 10 [] k_) (goS vs cap false 64 sf R so ro rL rd L n i) = some (toAt fL_go 27 [k_], goV vs cap false 64 (g2 (abA (keyL 8 sf) ((cutI R ro rL) ++ (cutI ([] : List Int) 0 0)))) ((cutI R ro rL) ++ (cutI ([] : List Int) 0 0)) so (sumW (keyL 8 (g2 (abA (keyL 8 sf) ((cutI R ro rL) ++ (cutI ([] : List Int) 0 0))))) (lf ((cutI R ro rL) ++ (cutI ([] : List Int) 0 0))) (n + ((cutI ([] : List Int) 0 0).length : Int))) (128 * KN ((cutI R ro rL) ++ (cutI ([] : List Int) 0 0))) (((cutI R ro rL) ++ (cutI ([] : List Int) 0 0)).length - 128 * KN ((cutI R ro rL) ++ (cutI ([] : List Int) 0 0))) (128 * (KN ((cutI R ro rL) ++ (cutI ([] : List Int) 0 0)) - 1)) L 64 (n + ((cutI ([] : List Int) 0 0).length : Int)) i 0, [tB (decide ((i : Int) < (vs.length : Int))) true, 0 + vs.length ≤ widths [Seg.vs vs], 0 ≤ (i : Int) ∧ (i : Int).toNat ≤ vs.length - 1, 1 ≤ vs.length, ∀ ρ : Nat → Loc, (segsVals ρ [Seg.vs vs])[i]? = some (.slice a 0 0), 0 = widths [] ∧ 0 = widths [], ro + rL ≤ R.length, 0 + 0 ≤ ([] : List Int).length ∧ 0 ≤ 0, 63 = 63 ∧ (keyL 8 sf).length = 8 ∧ (cutI R ro rL).length + (cutI ([] : List Int) 0 0).length ≤ 900000 ∧ 0 ≤ n ∧ n ≤ 1000000, L = widths [Seg.arr .u8 so], 128 * KN ((cutI R ro rL) ++ (cutI ([] : List Int) 0 0)) + (((cutI R ro rL) ++ (cutI ([] : List Int) 0 0)).length - 128 * KN ((cutI R ro rL) ++ (cutI ([] : List Int) 0 0))) ≤ ((cutI R ro rL) ++ (cutI ([] : List Int) 0 0)).length, (keyL 8 (g2 (abA (keyL 8 sf) ((cutI R ro rL) ++ (cutI ([] : List Int) 0 0))))).length = 8 ∧ (lf ((cutI R ro rL) ++ (cutI ([] : List Int) 0 0))).length ≤ 1000 ∧ 0 ≤ (n + ((cutI ([] : List Int) 0 0).length : Int)) ∧ (n + ((cutI ([] : List Int) 0 0).length : Int)) ≤ 1000000 ∧ ((64 : Int) = 64 ∨ (64 : Int) = 48), 0 + L ≤ so.length, isBs (cutI so 0 L) ∧ (cutI so 0 L).length ≤ 900000, 64 ≤ widths [Seg.arr .u8 (sumW (keyL 8 (g2 (abA (keyL 8 sf) ((cutI R ro rL) ++ (cutI ([] : List Int) 0 0))))) (lf ((cutI R ro rL) ++ (cutI ([] : List Int) 0 0))) (n + ((cutI ([] : List Int) 0 0).length : Int)))], tB (!((strOf (List.take 64 (List.drop 0 (sumW (keyL 8 (g2 (abA (keyL 8 sf) ((cutI R ro rL) ++ (cutI ([] : List Int) 0 0))))) (lf ((cutI R ro rL) ++ (cutI ([] : List Int) 0 0))) (n + ((cutI ([] : List Int) 0 0).length : Int)))) ++ [])).toList == (strOf (keyL 64 (g2 (shaL kStart512 (cutI so 0 L))))).toList)) false, (keyL 8 (g2 (abA (keyL 8 sf) ((cutI R ro rL) ++ (cutI ([] : List Int) 0 0))))).length = 8, tB ((n + ((cutI ([] : List Int) 0 0).length : Int)) != ((L : Nat) : Int)) false]) := by kernel_rfl
theorem go_zIf (vs : List Value) (cap : Nat) (ps : List Pt) (sf : Nat → Int) (i k_ : Nat) (a : Option Addr) : runN tyT (goOT ps) (atH 10 0 (isB true) (atH 11 0 symH (atH 11 1 (ldZ a) (atH 12 2 symH (atH 14 2 symH (atH 24 1 symH (atH 24 4 (isB false) (atH 24 10 (isB false) noH)))))))) [(16, 1)] 2000 1 [1, 5, 2, 6] [1, 5, 6, 11, 27, 28, 29, 75, 76] (inAt fL_go 10 [] k_) (goI vs cap false 64 sf i) = some (toAt fL_go 27 [k_], goV vs cap false 64 (g2 (abA (keyL 8 sf) (([] : List Int) ++ (cutI ([] : List Int) 0 0)))) (([] : List Int) ++ (cutI ([] : List Int) 0 0)) ([] : List Int) (sumW (keyL 8 (g2 (abA (keyL 8 sf) (([] : List Int) ++ (cutI ([] : List Int) 0 0))))) (lf (([] : List Int) ++ (cutI ([] : List Int) 0 0))) ((0 : Int) + ((cutI ([] : List Int) 0 0).length : Int))) (128 * KN (([] : List Int) ++ (cutI ([] : List Int) 0 0))) ((([] : List Int) ++ (cutI ([] : List Int) 0 0)).length - 128 * KN (([] : List Int) ++ (cutI ([] : List Int) 0 0))) (128 * (KN (([] : List Int) ++ (cutI ([] : List Int) 0 0)) - 1)) 0 64 ((0 : Int) + ((cutI ([] : List Int) 0 0).length : Int)) i 0, [tB (decide ((i : Int) < (vs.length : Int))) true, 0 + vs.length ≤ widths [Seg.vs vs], 0 ≤ (i : Int) ∧ (i : Int).toNat ≤ vs.length - 1, 1 ≤ vs.length, ∀ ρ : Nat → Loc, (segsVals ρ [Seg.vs vs])[i]? = some (.slice a 0 0), 0 = widths [] ∧ 0 = widths [], 0 + 0 ≤ ([] : List Int).length ∧ 0 ≤ 0, 63 = 63 ∧ (keyL 8 sf).length = 8 ∧ ([] : List Int).length + (cutI ([] : List Int) 0 0).length ≤ 900000 ∧ 0 ≤ (0 : Int) ∧ (0 : Int) ≤ 1000000, 0 = 0, 128 * KN (([] : List Int) ++ (cutI ([] : List Int) 0 0)) + ((([] : List Int) ++ (cutI ([] : List Int) 0 0)).length - 128 * KN (([] : List Int) ++ (cutI ([] : List Int) 0 0))) ≤ (([] : List Int) ++ (cutI ([] : List Int) 0 0)).length, (keyL 8 (g2 (abA (keyL 8 sf) (([] : List Int) ++ (cutI ([] : List Int) 0 0))))).length = 8 ∧ (lf (([] : List Int) ++ (cutI ([] : List Int) 0 0))).length ≤ 1000 ∧ 0 ≤ ((0 : Int) + ((cutI ([] : List Int) 0 0).length : Int)) ∧ ((0 : Int) + ((cutI ([] : List Int) 0 0).length : Int)) ≤ 1000000 ∧ ((64 : Int) = 64 ∨ (64 : Int) = 48), 0 + 0 ≤ ([] : List Int).length, isBs (cutI ([] : List Int) 0 0) ∧ (cutI ([] : List Int) 0 0).length ≤ 900000, 64 ≤ widths [Seg.arr .u8 (sumW (keyL 8 (g2 (abA (keyL 8 sf) (([] : List Int) ++ (cutI ([] : List Int) 0 0))))) (lf (([] : List Int) ++ (cutI ([] : List Int) 0 0))) ((0 : Int) + ((cutI ([] : List Int) 0 0).length : Int)))], tB (!((strOf (List.take 64 (List.drop 0 (sumW (keyL 8 (g2 (abA (keyL 8 sf) (([] : List Int) ++ (cutI ([] : List Int) 0 0))))) (lf (([] : List Int) ++ (cutI ([] : List Int) 0 0))) ((0 : Int) + ((cutI ([] : List Int) 0 0).length : Int)))) ++ [])).toList == (strOf (keyL 64 (g2 (shaL kStart512 (cutI ([] : List Int) 0 0))))).toList)) false, (keyL 8 (g2 (abA (keyL 8 sf) (([] : List Int) ++ (cutI ([] : List Int) 0 0))))).length = 8, tB (((0 : Int) + ((cutI ([] : List Int) 0 0).length : Int)) != ((0 : Nat) : Int)) false]) := by kernel_rfl
theorem go_ct (vs : List Value) (cap : Nat) (ps : List Pt) (sf : Nat → Int) (R so W : List Int) (ro rL rd L m : Nat) (n : Int) (i j j_ k_ : Nat) : runN tyT (goOT ps) (atH 16 0 (isB false) (atH 24 1 symH (atH 24 4 (isB false) (atH 24 10 (isB false) noH)))) [] 2000 1 [1, 2, 3, 5] [1, 5, 6, 11, 27, 28, 29, 75, 76] (inAt fL_go 16 [j_] k_) (goU vs cap true 48 sf R so W ro rL rd L m n i j) = some (toAt fL_go 27 [j_], goV vs cap true 48 sf R so (sumW (keyL 8 sf) (cutI R ro rL) n) ro rL rd L 48 n i 0, [tB (decide ((j : Int) < (m : Int))) false, ro + rL ≤ R.length, (keyL 8 sf).length = 8 ∧ (cutI R ro rL).length ≤ 1000 ∧ 0 ≤ n ∧ n ≤ 1000000 ∧ ((48 : Int) = 64 ∨ (48 : Int) = 48), 0 + L ≤ so.length, isBs (cutI so 0 L) ∧ (cutI so 0 L).length ≤ 900000, 0 + L ≤ so.length, isBs (cutI so 0 L) ∧ (cutI so 0 L).length ≤ 900000, 48 ≤ widths [Seg.arr .u8 (sumW (keyL 8 sf) (cutI R ro rL) n)], tB (!((strOf (List.take 48 (List.drop 0 (sumW (keyL 8 sf) (cutI R ro rL) n)) ++ [])).toList == (strOf (keyL 48 (g2 (shaL kStart384 (cutI so 0 L))))).toList)) false, (keyL 8 sf).length = 8, tB (n != ((L : Nat) : Int)) false]) := by kernel_rfl
theorem go_zt (vs : List Value) (cap : Nat) (ps : List Pt) (sf : Nat → Int) (R so : List Int) (ro rL rd L : Nat) (n : Int) (i k_ : Nat) (a : Option Addr) : runN tyT (goOT ps) (atH 10 0 (isB true) (atH 11 0 symH (atH 11 1 (ldZ a) (atH 12 2 symH (atH 14 2 symH (atH 24 1 symH (atH 24 4 (isB false) (atH 24 10 (isB false) noH)))))))) [(16, 1)] 2000 1 [1, 6, 3, 7] [1, 5, 6, 11, 27, 28, 29, 75, 76] (inAt fL_go 10 [] k_) (goS vs cap true 48 sf R so ro rL rd L n i) = some (toAt fL_go 27 [k_], goV vs cap true 48 (g2 (abA (keyL 8 sf) ((cutI R ro rL) ++ (cutI ([] : List Int) 0 0)))) ((cutI R ro rL) ++ (cutI ([] : List Int) 0 0)) so (sumW (keyL 8 (g2 (abA (keyL 8 sf) ((cutI R ro rL) ++ (cutI ([] : List Int) 0 0))))) (lf ((cutI R ro rL) ++ (cutI ([] : List Int) 0 0))) (n + ((cutI ([] : List Int) 0 0).length : Int))) (128 * KN ((cutI R ro rL) ++ (cutI ([] : List Int) 0 0))) (((cutI R ro rL) ++ (cutI ([] : List Int) 0 0)).length - 128 * KN ((cutI R ro rL) ++ (cutI ([] : List Int) 0 0))) (128 * (KN ((cutI R ro rL) ++ (cutI ([] : List Int) 0 0)) - 1)) L 48 (n + ((cutI ([] : List Int) 0 0).length : Int)) i 0, [tB (decide ((i : Int) < (vs.length : Int))) true, 0 + vs.length ≤ widths [Seg.vs vs], 0 ≤ (i : Int) ∧ (i : Int).toNat ≤ vs.length - 1, 1 ≤ vs.length, ∀ ρ : Nat → Loc, (segsVals ρ [Seg.vs vs])[i]? = some (.slice a 0 0), 0 = widths [] ∧ 0 = widths [], ro + rL ≤ R.length, 0 + 0 ≤ ([] : List Int).length ∧ 0 ≤ 0, 63 = 63 ∧ (keyL 8 sf).length = 8 ∧ (cutI R ro rL).length + (cutI ([] : List Int) 0 0).length ≤ 900000 ∧ 0 ≤ n ∧ n ≤ 1000000, L = widths [Seg.arr .u8 so], 128 * KN ((cutI R ro rL) ++ (cutI ([] : List Int) 0 0)) + (((cutI R ro rL) ++ (cutI ([] : List Int) 0 0)).length - 128 * KN ((cutI R ro rL) ++ (cutI ([] : List Int) 0 0))) ≤ ((cutI R ro rL) ++ (cutI ([] : List Int) 0 0)).length, (keyL 8 (g2 (abA (keyL 8 sf) ((cutI R ro rL) ++ (cutI ([] : List Int) 0 0))))).length = 8 ∧ (lf ((cutI R ro rL) ++ (cutI ([] : List Int) 0 0))).length ≤ 1000 ∧ 0 ≤ (n + ((cutI ([] : List Int) 0 0).length : Int)) ∧ (n + ((cutI ([] : List Int) 0 0).length : Int)) ≤ 1000000 ∧ ((48 : Int) = 64 ∨ (48 : Int) = 48), 0 + L ≤ so.length, isBs (cutI so 0 L) ∧ (cutI so 0 L).length ≤ 900000, 0 + L ≤ so.length, isBs (cutI so 0 L) ∧ (cutI so 0 L).length ≤ 900000, 48 ≤ widths [Seg.arr .u8 (sumW (keyL 8 (g2 (abA (keyL 8 sf) ((cutI R ro rL) ++ (cutI ([] : List Int) 0 0))))) (lf ((cutI R ro rL) ++ (cutI ([] : List Int) 0 0))) (n + ((cutI ([] : List Int) 0 0).length : Int)))], tB (!((strOf (List.take 48 (List.drop 0 (sumW (keyL 8 (g2 (abA (keyL 8 sf) ((cutI R ro rL) ++ (cutI ([] : List Int) 0 0))))) (lf ((cutI R ro rL) ++ (cutI ([] : List Int) 0 0))) (n + ((cutI ([] : List Int) 0 0).length : Int)))) ++ [])).toList == (strOf (keyL 48 (g2 (shaL kStart384 (cutI so 0 L))))).toList)) false, (keyL 8 (g2 (abA (keyL 8 sf) ((cutI R ro rL) ++ (cutI ([] : List Int) 0 0))))).length = 8, tB ((n + ((cutI ([] : List Int) 0 0).length : Int)) != ((L : Nat) : Int)) false]) := by kernel_rfl
theorem go_zIt (vs : List Value) (cap : Nat) (ps : List Pt) (sf : Nat → Int) (i k_ : Nat) (a : Option Addr) : runN tyT (goOT ps) (atH 10 0 (isB true) (atH 11 0 symH (atH 11 1 (ldZ a) (atH 12 2 symH (atH 14 2 symH (atH 24 1 symH (atH 24 4 (isB false) (atH 24 10 (isB false) noH)))))))) [(16, 1)] 2000 1 [1, 5, 2, 6] [1, 5, 6, 11, 27, 28, 29, 75, 76] (inAt fL_go 10 [] k_) (goI vs cap true 48 sf i) = some (toAt fL_go 27 [k_], goV vs cap true 48 (g2 (abA (keyL 8 sf) (([] : List Int) ++ (cutI ([] : List Int) 0 0)))) (([] : List Int) ++ (cutI ([] : List Int) 0 0)) ([] : List Int) (sumW (keyL 8 (g2 (abA (keyL 8 sf) (([] : List Int) ++ (cutI ([] : List Int) 0 0))))) (lf (([] : List Int) ++ (cutI ([] : List Int) 0 0))) ((0 : Int) + ((cutI ([] : List Int) 0 0).length : Int))) (128 * KN (([] : List Int) ++ (cutI ([] : List Int) 0 0))) ((([] : List Int) ++ (cutI ([] : List Int) 0 0)).length - 128 * KN (([] : List Int) ++ (cutI ([] : List Int) 0 0))) (128 * (KN (([] : List Int) ++ (cutI ([] : List Int) 0 0)) - 1)) 0 48 ((0 : Int) + ((cutI ([] : List Int) 0 0).length : Int)) i 0, [tB (decide ((i : Int) < (vs.length : Int))) true, 0 + vs.length ≤ widths [Seg.vs vs], 0 ≤ (i : Int) ∧ (i : Int).toNat ≤ vs.length - 1, 1 ≤ vs.length, ∀ ρ : Nat → Loc, (segsVals ρ [Seg.vs vs])[i]? = some (.slice a 0 0), 0 = widths [] ∧ 0 = widths [], 0 + 0 ≤ ([] : List Int).length ∧ 0 ≤ 0, 63 = 63 ∧ (keyL 8 sf).length = 8 ∧ ([] : List Int).length + (cutI ([] : List Int) 0 0).length ≤ 900000 ∧ 0 ≤ (0 : Int) ∧ (0 : Int) ≤ 1000000, 0 = 0, 128 * KN (([] : List Int) ++ (cutI ([] : List Int) 0 0)) + ((([] : List Int) ++ (cutI ([] : List Int) 0 0)).length - 128 * KN (([] : List Int) ++ (cutI ([] : List Int) 0 0))) ≤ (([] : List Int) ++ (cutI ([] : List Int) 0 0)).length, (keyL 8 (g2 (abA (keyL 8 sf) (([] : List Int) ++ (cutI ([] : List Int) 0 0))))).length = 8 ∧ (lf (([] : List Int) ++ (cutI ([] : List Int) 0 0))).length ≤ 1000 ∧ 0 ≤ ((0 : Int) + ((cutI ([] : List Int) 0 0).length : Int)) ∧ ((0 : Int) + ((cutI ([] : List Int) 0 0).length : Int)) ≤ 1000000 ∧ ((48 : Int) = 64 ∨ (48 : Int) = 48), 0 + 0 ≤ ([] : List Int).length, isBs (cutI ([] : List Int) 0 0) ∧ (cutI ([] : List Int) 0 0).length ≤ 900000, 0 + 0 ≤ ([] : List Int).length, isBs (cutI ([] : List Int) 0 0) ∧ (cutI ([] : List Int) 0 0).length ≤ 900000, 48 ≤ widths [Seg.arr .u8 (sumW (keyL 8 (g2 (abA (keyL 8 sf) (([] : List Int) ++ (cutI ([] : List Int) 0 0))))) (lf (([] : List Int) ++ (cutI ([] : List Int) 0 0))) ((0 : Int) + ((cutI ([] : List Int) 0 0).length : Int)))], tB (!((strOf (List.take 48 (List.drop 0 (sumW (keyL 8 (g2 (abA (keyL 8 sf) (([] : List Int) ++ (cutI ([] : List Int) 0 0))))) (lf (([] : List Int) ++ (cutI ([] : List Int) 0 0))) ((0 : Int) + ((cutI ([] : List Int) 0 0).length : Int)))) ++ [])).toList == (strOf (keyL 48 (g2 (shaL kStart384 (cutI ([] : List Int) 0 0))))).toList)) false, (keyL 8 (g2 (abA (keyL 8 sf) (([] : List Int) ++ (cutI ([] : List Int) 0 0))))).length = 8, tB (((0 : Int) + ((cutI ([] : List Int) 0 0).length : Int)) != ((0 : Nat) : Int)) false]) := by kernel_rfl
end
end Go.Proofs.YtmhmfmnjdbehcaaDoor.Am
/- Law 02's Goes: what its runs make together. Conditions: none. -/
namespace Go.Proofs.YtmhmfmnjdbehcaaDoor.Am
set_option linter.unusedVariables false
set_option linter.unusedSimpArgs false
open Go Go.RowKit
set_option linter.unusedSectionVars false
section
variable [GT] [GRnd]
theorem gabA_nil (s j : List Int) : abA (abA s j) (lf j) = abA s j := by
  have := abA_app s j []
  rwa [List.append_nil, List.append_nil] at this
theorem glf_lf (j : List Int) : lf (lf j) = lf j := by
  have := lf_app j []
  rwa [List.append_nil, List.append_nil] at this
theorem take_key (l : List Int) (z : Nat) (h : l.length = 64) (hz : z ≤ 64) : List.take z (List.drop 0 l) ++ [] = keyL z (g2 l) := by
  rw [List.append_nil, List.drop_zero]
  have hl : (l.take z).length = z := by rw [List.length_take]; omega
  rw [← keyL_g2 hl]
  exact keyL_congr fun i hi => by
    unfold g2
    rw [List.getD_eq_getElem?_getD, List.getD_eq_getElem?_getD, List.getElem?_take, if_pos hi]
theorem lf_ofX (X : List Int) : 128 * KN X + (X.length - 128 * KN X) ≤ X.length := by
  have := KN_le X
  omega
theorem jn_mem {ps : List Pt} {i : Nat} {z : Int} (h : z ∈ jn (ps.take i)) : z ∈ jn ps := by
  unfold jn at *
  obtain ⟨x, hx, hz⟩ := List.mem_flatMap.1 h
  exact List.mem_flatMap.2 ⟨x, List.mem_of_mem_take hx, hz⟩
theorem set_len (W : List Int) (j : Nat) (x : Int) : (List.set W j x).length = W.length := List.length_set
theorem go_xs [G512] [G384] (vs : List Value) (cap : Nat) (ps : List Pt) (b : Bool) (z : Int) (sf : Nat → Int) (R so : List Int) (ro rL rd L m : Nat) (n : Int) (i j_ : Nat) (T : List AI) (X : St) (hm : m ≤ 1000000) (hC : ∀ W : List Int, Reaches Tryd.prog 0 (inAt fL_go 16 [j_] 0) (goU vs cap b z sf R so W ro rL rd L m n i m) T X) : ∀ (r j : Nat) (W : List Int), m ≤ W.length → j + r = m → Reaches Tryd.prog 0 (hdAt fL_go 16 [j_] (r + 1)) (goU vs cap b z sf R so W ro rL rd L m n i j) T X
  | 0, j, W, hW, e => by
    obtain rfl : j = m := by omega
    exact Reaches.oneK (hC W)
  | r + 1, j, W, hW, e => by
    refine (Reaches.oneK (Reaches.runK tyT_ok (goOT_ok ps) mixed_ (go_x vs cap ps b z sf R so W ro rL rd L m n i j j_ (r + 1)) ?_)).trans (go_xs vs cap ps b z sf R so ro rL rd L m n i j_ T X hm hC r (j + 1) (List.set W j (ixor .u8 (List.getD W j 0) 1)) (by rw [set_len]; exact hW) (by omega))
    refine ⟨tB_lt.2 (by omega), by rw [widths_o]; omega, by omega, by omega, by omega, by rw [widths_o]; omega, by omega, by omega, by omega, ?_, trivial⟩
    rw [tI_iff, w64 (by omega) (by omega)]
    omega
theorem go_ds [G512] [G384] (vs : List Value) (cap : Nat) (ps : List Pt) (b : Bool) (z : Int) (sf : Nat → Int) (R so : List Int) (ro rL rd L m : Nat) (n : Int) (i j_ : Nat) (hm : m ≤ 1000000) (hi : i ≤ 1000000) : ∀ (r j : Nat) (W : List Int), m ≤ W.length → j + r = m → Reaches Tryd.prog 0 (hdAt fL_go 27 [j_] (r + 1)) (goV vs cap b z sf R so W ro rL rd L m n i j) (hdAt fL_go 10 [] j_) (goS vs cap b z sf R so ro rL rd L n ((i + 1 : Nat) : Int))
  | 0, j, W, hW, e => by
    refine Reaches.oneK (Reaches.runK tyT_ok (goOT_ok ps) mixed_ (go_e vs cap ps b z sf R so W ro rL rd L m n i j j_ 0) ⟨tB_nlt.2 (by omega), ?_, trivial⟩)
    rw [tI_iff, w64 (by omega) (by omega)]
    omega
  | r + 1, j, W, hW, e => by
    refine (Reaches.oneK (Reaches.runK tyT_ok (goOT_ok ps) mixed_ (go_d vs cap ps b z sf R so W ro rL rd L m n i j j_ (r + 1)) ?_)).trans (go_ds vs cap ps b z sf R so ro rL rd L m n i j_ hm hi r (j + 1) (List.set W j 7) (by rw [set_len]; exact hW) (by omega))
    refine ⟨tB_lt.2 (by omega), by rw [widths_o]; omega, by omega, by omega, by omega, ?_, trivial⟩
    rw [tI_iff, w64 (by omega) (by omega)]
    omega
/-- Behind a part: the sum so far, told. -/
theorem go_tellf [G512] [G384] (ps : List Pt) (cap : Nat) (so X : List Int) (d m i jj : Nat) (hso : so.length ≤ 600) (hb : isBs so) (hm : m ≤ 600) (hi : i ≤ 1000000) (hX : lf X = lf so) (W : List Int) (hW : m ≤ W.length) : Reaches Tryd.prog 0 (toAt fL_go 16 [jj]) (goU (pv ps) cap false 64 (g2 (abA kStart512 so)) X so W (128 * KN X) (X.length - 128 * KN X) d so.length m so.length i 0) (hdAt fL_go 10 [] jj) (goS (pv ps) cap false 64 (g2 (abA kStart512 so)) X so (128 * KN X) (X.length - 128 * KN X) d so.length so.length ((i + 1 : Nat) : Int)) := by
  have h8 : kStart512.length = 8 := rfl
  have hl := lf_len so
  have hX2 := lf_ofX X
  have hSL := shaL_len kStart512 so
  refine (Reaches.roundsK (m + 1) (go_xs (pv ps) cap ps false 64 (g2 (abA kStart512 so)) X so (128 * KN X) (X.length - 128 * KN X) d so.length m so.length i jj (toAt fL_go 27 [jj]) (goV (pv ps) cap false 64 (g2 (abA kStart512 so)) X so (shaL kStart512 so) (128 * KN X) (X.length - 128 * KN X) d so.length 64 so.length i 0) (by omega) (fun W' => ?_) m 0 W hW (by omega))).trans (Reaches.roundsK (64 + 1) (go_ds (pv ps) cap ps false 64 (g2 (abA kStart512 so)) X so (128 * KN X) (X.length - 128 * KN X) d so.length 64 so.length i jj (by omega) hi 64 0 (shaL kStart512 so) (by rw [hSL]; omega) (by omega)))
  have hrun := go_cf (pv ps) cap ps (g2 (abA kStart512 so)) X so W' (128 * KN X) (X.length - 128 * KN X) d so.length m so.length i m jj 0
  rw [keyL_g2 (abA_len h8 _), cutI_all, lf_def, hX, sumW_eq _ _ _ rfl, take_key _ 64 hSL (by omega)] at hrun
  have hbs : isBs so ∧ so.length ≤ 900000 := ⟨hb, by omega⟩
  refine Reaches.runK tyT_ok (goOT_ok ps) mixed_ hrun ⟨tB_nlt.2 (by omega), hX2, ⟨abA_len h8 _, by omega, by omega, by omega, by decide⟩, (by omega), hbs, by rw [widths_o]; omega, ?_, abA_len h8 _, ?_, trivial⟩
  · rw [tB_iff, beq_self_eq_true]; rfl
  · rw [tB_iff]; simp
theorem go_partf [G512] [G384] (ps : List Pt) (hps : PtsOK ps) (h20 : ps.length ≤ 20) (hj : (jn ps).length ≤ 600) (hb : isBs (jn ps)) (cap : Nat) (R : List Int) (ro rL rd i jj : Nat) (hi : i < ps.length) (hR : ro + rL ≤ R.length) (hlf : cutI R ro rL = lf (jn (ps.take i))) : ∃ X d, lf X = lf (jn (ps.take (i + 1))) ∧ Reaches Tryd.prog 0 (inAt fL_go 10 [] jj) (goS (pv ps) cap false 64 (g2 (abA kStart512 (jn (ps.take i)))) R (jn (ps.take i)) ro rL rd (jn (ps.take i)).length (jn (ps.take i)).length i) (hdAt fL_go 10 [] jj) (goS (pv ps) cap false 64 (g2 (abA kStart512 (jn (ps.take (i + 1))))) X (jn (ps.take (i + 1))) (128 * KN X) (X.length - 128 * KN X) d (jn (ps.take (i + 1))).length (jn (ps.take (i + 1))).length ((i + 1 : Nat) : Int)) := by
  have h8 : kStart512.length = 8 := rfl
  have hj1 := jn_le ps (i + 1)
  have hj0 := jn_le ps i
  have hb1 : isBs (jn (ps.take (i + 1))) := fun z hz => hb z (jn_mem hz)
  have hll := lf_len (jn (ps.take i))
  have hX : lf (lf (jn (ps.take i)) ++ ps[i].2.2) = lf (jn (ps.take (i + 1))) := by rw [lf_app, jn_take hi]
  have hA : abA (abA kStart512 (jn (ps.take i))) (lf (jn (ps.take i)) ++ ps[i].2.2) = abA kStart512 (jn (ps.take (i + 1))) := by rw [abA_app, jn_take hi]
  have hp := part_le hi
  have hn : ((jn (ps.take i)).length : Int) + (ps[i].2.2.length : Int) = ((jn (ps.take (i + 1))).length : Int) := by rw [jn_take hi, List.length_append]; omega
  have hL : (jn (ps.take i)).length + ps[i].2.2.length = (jn (ps.take (i + 1))).length := by rw [jn_take hi, List.length_append]
  rcases hps _ (List.getElem_mem hi) with htr | ⟨hz0, hz1⟩
  · have hrun := go_in (pv ps) cap ps false 64 (g2 (abA kStart512 (jn (ps.take i)))) R (jn (ps.take i)) ro rL rd (jn (ps.take i)).length (jn (ps.take i)).length i jj ps[i].2.2 ps[i].1 ps[i].2.1
    rw [Nat.zero_add, List.take_length, cutI_all, keyL_g2 (abA_len h8 _), hlf, hA, widths_o, widths_o, hL, hn, ← jn_take hi] at hrun
    refine ⟨_, _, hX, (Reaches.runK tyT_ok (goOT_ok ps) mixed_ hrun ?_).trans (go_tellf ps cap (jn (ps.take (i + 1))) (lf (jn (ps.take i)) ++ ps[i].2.2) _ ps[i].2.2.length i jj (by omega) hb1 (by omega) (by omega) hX ps[i].2.2 (Nat.le_refl _))⟩
    rw [vs_w, pv_len]
    refine ⟨tB_lt.2 (by omega), by omega, by omega, by omega, vs_get _ _ _ (pv_get hi), htr, ⟨rfl, rfl⟩, by omega, by omega, hR, by omega, ⟨rfl, abA_len h8 _, by omega, by omega, by omega⟩, rfl, by omega, by omega, trivial⟩
  · have hg := pv_get hi
    rw [hz0, hz1] at hg
    rw [hz0] at hX hA hn hL
    rw [List.append_nil] at hX hA
    rw [List.length_nil, Int.natCast_zero] at hn
    have hjt : jn (ps.take (i + 1)) = jn (ps.take i) := by rw [jn_take hi, hz0, List.append_nil]
    have hrun := go_zf (pv ps) cap ps (g2 (abA kStart512 (jn (ps.take i)))) R (jn (ps.take i)) ro rL rd (jn (ps.take i)).length (jn (ps.take i)).length i jj ps[i].1
    have hSL := shaL_len kStart512 (jn (ps.take i))
    have hq : cutI ([] : List Int) 0 0 = [] := rfl
    rw [hq, keyL_g2 (abA_len h8 _), hlf, List.append_nil, gabA_nil, keyL_g2 (abA_len h8 _), cutI_all, List.length_nil, Int.natCast_zero, Int.add_zero, glf_lf, sumW_eq _ _ _ rfl, take_key _ 64 hSL (by omega)] at hrun
    have hbs : isBs (jn (ps.take i)) ∧ (jn (ps.take i)).length ≤ 900000 := ⟨by rw [← hjt]; exact hb1, by omega⟩
    rw [hjt]
    refine ⟨lf (jn (ps.take i)), _, glf_lf _, (Reaches.runK tyT_ok (goOT_ok ps) mixed_ hrun ?_).trans (Reaches.roundsK (64 + 1) (go_ds (pv ps) cap ps false 64 (g2 (abA kStart512 (jn (ps.take i)))) _ _ _ _ _ _ 64 _ i jj (by omega) (by omega) 64 0 (shaL kStart512 (jn (ps.take i))) (by rw [hSL]; omega) (by omega)))⟩
    rw [vs_w, pv_len]
    refine ⟨tB_lt.2 (by omega), by omega, by omega, by omega, vs_get _ _ _ hg, ⟨rfl, rfl⟩, hR, by decide, ⟨rfl, abA_len h8 _, by omega, by omega, by omega⟩, by rw [widths_o], lf_ofX _, ⟨abA_len h8 _, by omega, by omega, by omega, by decide⟩, (by omega), hbs, by rw [widths_o]; omega, ?_, abA_len h8 _, ?_, trivial⟩
    · rw [tB_iff, beq_self_eq_true]; rfl
    · rw [tB_iff]; simp
theorem go_roundsf [G512] [G384] (ps : List Pt) (hps : PtsOK ps) (h20 : ps.length ≤ 20) (hj : (jn ps).length ≤ 600) (hb : isBs (jn ps)) (cap : Nat) : ∀ (r i : Nat) (R : List Int) (ro rL rd : Nat), i + r = ps.length → ro + rL ≤ R.length → cutI R ro rL = lf (jn (ps.take i)) → Reaches Tryd.prog 0 (hdAt fL_go 10 [] (r + 1)) (goS (pv ps) cap false 64 (g2 (abA kStart512 (jn (ps.take i)))) R (jn (ps.take i)) ro rL rd (jn (ps.take i)).length (jn (ps.take i)).length i) [.fin] (goE (pv ps))
  | 0, i, R, ro, rL, rd, e, _, _ => Reaches.oneK (Reaches.runK tyT_ok (goOT_ok ps) mixed_ (go_end (pv ps) cap ps false 64 _ R _ ro rL rd _ _ i 0) ⟨tB_nlt.2 (by rw [pv_len]; omega), trivial⟩)
  | r + 1, i, R, ro, rL, rd, e, hR, hlf => by
    obtain ⟨X, d, hX, hst⟩ := go_partf ps hps h20 hj hb cap R ro rL rd i (r + 1) (by omega) hR hlf
    exact (Reaches.oneK hst).trans (go_roundsf ps hps h20 hj hb cap r (i + 1) X _ _ d (by omega) (lf_ofX X) (by rw [lf_def]; exact hX))
theorem go_firstf [G512] [G384] (ps : List Pt) (hps : PtsOK ps) (h20 : ps.length ≤ 20) (hj : (jn ps).length ≤ 600) (hb : isBs (jn ps)) (cap : Nat) (jj : Nat) (hi : 0 < ps.length) : ∃ X d, lf X = lf (jn (ps.take 1)) ∧ Reaches Tryd.prog 0 (inAt fL_go 10 [] jj) (goI (pv ps) cap false 64 (g2 kStart512) 0) (hdAt fL_go 10 [] jj) (goS (pv ps) cap false 64 (g2 (abA kStart512 (jn (ps.take 1)))) X (jn (ps.take 1)) (128 * KN X) (X.length - 128 * KN X) d (jn (ps.take 1)).length (jn (ps.take 1)).length ((1 : Nat) : Int)) := by
  have h8 : kStart512.length = 8 := rfl
  have hj1 := jn_le ps 1
  have hb1 : isBs (jn (ps.take 1)) := fun z hz => hb z (jn_mem hz)
  have hj1e : jn (ps.take 1) = ps[0].2.2 := by
    have := jn_take hi
    rw [List.take_zero] at this
    exact this
  have hp := part_le hi
  rcases hps _ (List.getElem_mem hi) with htr | ⟨hz0, hz1⟩
  · have hrun := go_inI (pv ps) cap ps false 64 (g2 kStart512) 0 jj ps[0].2.2 ps[0].1 ps[0].2.1
    rw [Nat.zero_add, List.take_length, cutI_all, keyL_g2 h8, List.nil_append, widths_o, Int.zero_add, ← hj1e] at hrun
    refine ⟨_, _, rfl, (Reaches.runK tyT_ok (goOT_ok ps) mixed_ hrun ?_).trans (go_tellf ps cap (jn (ps.take 1)) (jn (ps.take 1)) _ (jn (ps.take 1)).length 0 jj (by omega) hb1 (by omega) (by omega) rfl (jn (ps.take 1)) (Nat.le_refl _))⟩
    rw [vs_w, pv_len, hj1e]
    refine ⟨tB_lt.2 (by omega), by omega, by omega, by omega, vs_get _ _ _ (pv_get hi), htr, ⟨rfl, rfl⟩, by omega, by omega, by omega, ⟨rfl, h8, by simp only [List.length_nil]; omega, by omega, by omega⟩, rfl, by omega, by omega, trivial⟩
  · have hg := pv_get hi
    rw [hz0, hz1] at hg
    have hjt : jn (ps.take 1) = [] := by rw [hj1e, hz0]
    have e0 : abA kStart512 [] = kStart512 := rfl
    have l0 : lf [] = [] := rfl
    have hrun := go_zIf (pv ps) cap ps (g2 kStart512) 0 jj ps[0].1
    have hSL := shaL_len kStart512 []
    have hsw : sumW kStart512 [] 0 = shaL kStart512 [] := sumW_eq kStart512 [] 0 rfl
    have hq : cutI ([] : List Int) 0 0 = [] := rfl
    rw [hq, keyL_g2 h8, List.append_nil, e0, keyL_g2 h8, l0, List.length_nil, Int.natCast_zero, Int.add_zero, hsw, take_key _ 64 hSL (by omega)] at hrun
    rw [hjt]
    refine ⟨[], _, rfl, (Reaches.runK tyT_ok (goOT_ok ps) mixed_ hrun ?_).trans (Reaches.roundsK (64 + 1) (go_ds (pv ps) cap ps false 64 (g2 (abA kStart512 [])) [] [] _ _ _ _ 64 _ 0 jj (by omega) (by omega) 64 0 (shaL kStart512 []) (by rw [hSL]; omega) (by omega)))⟩
    rw [vs_w, pv_len]
    have hbs : isBs ([] : List Int) ∧ ([] : List Int).length ≤ 900000 := ⟨fun z hz => absurd hz List.not_mem_nil, by decide⟩
    refine ⟨tB_lt.2 (by omega), by omega, by omega, by omega, vs_get _ _ _ hg, ⟨rfl, rfl⟩, by decide, ⟨rfl, h8, by decide, by decide, by decide⟩, rfl, by decide, ⟨h8, by decide, by decide, by decide, by decide⟩, by decide, hbs, by rw [widths_o]; omega, ?_, h8, ?_, trivial⟩
    · rw [tB_iff, beq_self_eq_true]; rfl
    · rw [tB_iff]; rfl
theorem go_f [G512] [G384] (ps : List Pt) (hps : PtsOK ps) (h20 : ps.length ≤ 20) (hj : (jn ps).length ≤ 600) (hb : isBs (jn ps)) (cap : Nat) : From Tryd.prog fL_go (goA (pv ps) cap false) (lvP (pv ps)) 1 [] [.fin] (goE (pv ps)) := by
  have hJ : pv ps = pv ps ∧ PtsOK ps ∧ (jn ps).length ≤ 2000000 ∧ ps.length ≤ 2000000 := ⟨rfl, hps, by omega, by omega⟩
  have hst := From.run tyT_ok (goOT_ok ps) mixed_ (go_startf (pv ps) cap ps) ⟨trivial, rfl, ⟨rfl, by decide, by decide, by decide, by decide⟩, tB_le.2 (by rw [pv_len]; omega), rfl, hJ, tB_le.2 (by omega), trivial, trivial⟩
  have had : Reaches Tryd.prog 0 (toAt fL_go 10 []) (goI0 (pv ps) cap false 64 (g2 kStart512) 0) (toAt fL_go 10 []) (goI (pv ps) cap false 64 (g2 kStart512) 0) := Reaches.adoptK (m := 1) (es := [1, 2]) (ks := [1, 5, 6, 27, 28, 29]) 5 .u8 (t := 6) (by kernel_rfl) (by kernel_rfl)
  refine (hst.trans had).trans (Reaches.roundsK (ps.length + 1) ?_)
  by_cases hne : 0 < ps.length
  · obtain ⟨r, hr⟩ : ∃ r, ps.length = r + 1 := ⟨ps.length - 1, by omega⟩
    obtain ⟨X, d, hX, hs1⟩ := go_firstf ps hps h20 hj hb cap (r + 1) hne
    rw [hr]
    exact (Reaches.oneK hs1).trans (go_roundsf ps hps h20 hj hb cap r 1 X _ _ d (by omega) (lf_ofX X) (by rw [lf_def]; exact hX))
  · have h0 : ps.length = 0 := by omega
    rw [h0]
    exact Reaches.oneK (Reaches.runK tyT_ok (goOT_ok ps) mixed_ (go_endI (pv ps) cap ps false 64 _ 0 0) ⟨tB_nlt.2 (by rw [pv_len]; omega), trivial⟩)
/-- Behind a part: the sum so far, told. -/
theorem go_tellt [G512] [G384] (ps : List Pt) (cap : Nat) (so X : List Int) (d m i jj : Nat) (hso : so.length ≤ 600) (hb : isBs so) (hm : m ≤ 600) (hi : i ≤ 1000000) (hX : lf X = lf so) (W : List Int) (hW : m ≤ W.length) : Reaches Tryd.prog 0 (toAt fL_go 16 [jj]) (goU (pv ps) cap true 48 (g2 (abA kStart384 so)) X so W (128 * KN X) (X.length - 128 * KN X) d so.length m so.length i 0) (hdAt fL_go 10 [] jj) (goS (pv ps) cap true 48 (g2 (abA kStart384 so)) X so (128 * KN X) (X.length - 128 * KN X) d so.length so.length ((i + 1 : Nat) : Int)) := by
  have h8 : kStart384.length = 8 := rfl
  have hl := lf_len so
  have hX2 := lf_ofX X
  have hSL := shaL_len kStart384 so
  refine (Reaches.roundsK (m + 1) (go_xs (pv ps) cap ps true 48 (g2 (abA kStart384 so)) X so (128 * KN X) (X.length - 128 * KN X) d so.length m so.length i jj (toAt fL_go 27 [jj]) (goV (pv ps) cap true 48 (g2 (abA kStart384 so)) X so (shaL kStart384 so) (128 * KN X) (X.length - 128 * KN X) d so.length 48 so.length i 0) (by omega) (fun W' => ?_) m 0 W hW (by omega))).trans (Reaches.roundsK (48 + 1) (go_ds (pv ps) cap ps true 48 (g2 (abA kStart384 so)) X so (128 * KN X) (X.length - 128 * KN X) d so.length 48 so.length i jj (by omega) hi 48 0 (shaL kStart384 so) (by rw [hSL]; omega) (by omega)))
  have hrun := go_ct (pv ps) cap ps (g2 (abA kStart384 so)) X so W' (128 * KN X) (X.length - 128 * KN X) d so.length m so.length i m jj 0
  rw [keyL_g2 (abA_len h8 _), cutI_all, lf_def, hX, sumW_eq _ _ _ rfl, take_key _ 48 hSL (by omega)] at hrun
  have hbs : isBs so ∧ so.length ≤ 900000 := ⟨hb, by omega⟩
  refine Reaches.runK tyT_ok (goOT_ok ps) mixed_ hrun ⟨tB_nlt.2 (by omega), hX2, ⟨abA_len h8 _, by omega, by omega, by omega, by decide⟩, (by omega), hbs, (by omega), hbs, by rw [widths_o]; omega, ?_, abA_len h8 _, ?_, trivial⟩
  · rw [tB_iff, beq_self_eq_true]; rfl
  · rw [tB_iff]; simp
theorem go_partt [G512] [G384] (ps : List Pt) (hps : PtsOK ps) (h20 : ps.length ≤ 20) (hj : (jn ps).length ≤ 600) (hb : isBs (jn ps)) (cap : Nat) (R : List Int) (ro rL rd i jj : Nat) (hi : i < ps.length) (hR : ro + rL ≤ R.length) (hlf : cutI R ro rL = lf (jn (ps.take i))) : ∃ X d, lf X = lf (jn (ps.take (i + 1))) ∧ Reaches Tryd.prog 0 (inAt fL_go 10 [] jj) (goS (pv ps) cap true 48 (g2 (abA kStart384 (jn (ps.take i)))) R (jn (ps.take i)) ro rL rd (jn (ps.take i)).length (jn (ps.take i)).length i) (hdAt fL_go 10 [] jj) (goS (pv ps) cap true 48 (g2 (abA kStart384 (jn (ps.take (i + 1))))) X (jn (ps.take (i + 1))) (128 * KN X) (X.length - 128 * KN X) d (jn (ps.take (i + 1))).length (jn (ps.take (i + 1))).length ((i + 1 : Nat) : Int)) := by
  have h8 : kStart384.length = 8 := rfl
  have hj1 := jn_le ps (i + 1)
  have hj0 := jn_le ps i
  have hb1 : isBs (jn (ps.take (i + 1))) := fun z hz => hb z (jn_mem hz)
  have hll := lf_len (jn (ps.take i))
  have hX : lf (lf (jn (ps.take i)) ++ ps[i].2.2) = lf (jn (ps.take (i + 1))) := by rw [lf_app, jn_take hi]
  have hA : abA (abA kStart384 (jn (ps.take i))) (lf (jn (ps.take i)) ++ ps[i].2.2) = abA kStart384 (jn (ps.take (i + 1))) := by rw [abA_app, jn_take hi]
  have hp := part_le hi
  have hn : ((jn (ps.take i)).length : Int) + (ps[i].2.2.length : Int) = ((jn (ps.take (i + 1))).length : Int) := by rw [jn_take hi, List.length_append]; omega
  have hL : (jn (ps.take i)).length + ps[i].2.2.length = (jn (ps.take (i + 1))).length := by rw [jn_take hi, List.length_append]
  rcases hps _ (List.getElem_mem hi) with htr | ⟨hz0, hz1⟩
  · have hrun := go_in (pv ps) cap ps true 48 (g2 (abA kStart384 (jn (ps.take i)))) R (jn (ps.take i)) ro rL rd (jn (ps.take i)).length (jn (ps.take i)).length i jj ps[i].2.2 ps[i].1 ps[i].2.1
    rw [Nat.zero_add, List.take_length, cutI_all, keyL_g2 (abA_len h8 _), hlf, hA, widths_o, widths_o, hL, hn, ← jn_take hi] at hrun
    refine ⟨_, _, hX, (Reaches.runK tyT_ok (goOT_ok ps) mixed_ hrun ?_).trans (go_tellt ps cap (jn (ps.take (i + 1))) (lf (jn (ps.take i)) ++ ps[i].2.2) _ ps[i].2.2.length i jj (by omega) hb1 (by omega) (by omega) hX ps[i].2.2 (Nat.le_refl _))⟩
    rw [vs_w, pv_len]
    refine ⟨tB_lt.2 (by omega), by omega, by omega, by omega, vs_get _ _ _ (pv_get hi), htr, ⟨rfl, rfl⟩, by omega, by omega, hR, by omega, ⟨rfl, abA_len h8 _, by omega, by omega, by omega⟩, rfl, by omega, by omega, trivial⟩
  · have hg := pv_get hi
    rw [hz0, hz1] at hg
    rw [hz0] at hX hA hn hL
    rw [List.append_nil] at hX hA
    rw [List.length_nil, Int.natCast_zero] at hn
    have hjt : jn (ps.take (i + 1)) = jn (ps.take i) := by rw [jn_take hi, hz0, List.append_nil]
    have hrun := go_zt (pv ps) cap ps (g2 (abA kStart384 (jn (ps.take i)))) R (jn (ps.take i)) ro rL rd (jn (ps.take i)).length (jn (ps.take i)).length i jj ps[i].1
    have hSL := shaL_len kStart384 (jn (ps.take i))
    have hq : cutI ([] : List Int) 0 0 = [] := rfl
    rw [hq, keyL_g2 (abA_len h8 _), hlf, List.append_nil, gabA_nil, keyL_g2 (abA_len h8 _), cutI_all, List.length_nil, Int.natCast_zero, Int.add_zero, glf_lf, sumW_eq _ _ _ rfl, take_key _ 48 hSL (by omega)] at hrun
    have hbs : isBs (jn (ps.take i)) ∧ (jn (ps.take i)).length ≤ 900000 := ⟨by rw [← hjt]; exact hb1, by omega⟩
    rw [hjt]
    refine ⟨lf (jn (ps.take i)), _, glf_lf _, (Reaches.runK tyT_ok (goOT_ok ps) mixed_ hrun ?_).trans (Reaches.roundsK (48 + 1) (go_ds (pv ps) cap ps true 48 (g2 (abA kStart384 (jn (ps.take i)))) _ _ _ _ _ _ 48 _ i jj (by omega) (by omega) 48 0 (shaL kStart384 (jn (ps.take i))) (by rw [hSL]; omega) (by omega)))⟩
    rw [vs_w, pv_len]
    refine ⟨tB_lt.2 (by omega), by omega, by omega, by omega, vs_get _ _ _ hg, ⟨rfl, rfl⟩, hR, by decide, ⟨rfl, abA_len h8 _, by omega, by omega, by omega⟩, by rw [widths_o], lf_ofX _, ⟨abA_len h8 _, by omega, by omega, by omega, by decide⟩, (by omega), hbs, (by omega), hbs, by rw [widths_o]; omega, ?_, abA_len h8 _, ?_, trivial⟩
    · rw [tB_iff, beq_self_eq_true]; rfl
    · rw [tB_iff]; simp
theorem go_roundst [G512] [G384] (ps : List Pt) (hps : PtsOK ps) (h20 : ps.length ≤ 20) (hj : (jn ps).length ≤ 600) (hb : isBs (jn ps)) (cap : Nat) : ∀ (r i : Nat) (R : List Int) (ro rL rd : Nat), i + r = ps.length → ro + rL ≤ R.length → cutI R ro rL = lf (jn (ps.take i)) → Reaches Tryd.prog 0 (hdAt fL_go 10 [] (r + 1)) (goS (pv ps) cap true 48 (g2 (abA kStart384 (jn (ps.take i)))) R (jn (ps.take i)) ro rL rd (jn (ps.take i)).length (jn (ps.take i)).length i) [.fin] (goE (pv ps))
  | 0, i, R, ro, rL, rd, e, _, _ => Reaches.oneK (Reaches.runK tyT_ok (goOT_ok ps) mixed_ (go_end (pv ps) cap ps true 48 _ R _ ro rL rd _ _ i 0) ⟨tB_nlt.2 (by rw [pv_len]; omega), trivial⟩)
  | r + 1, i, R, ro, rL, rd, e, hR, hlf => by
    obtain ⟨X, d, hX, hst⟩ := go_partt ps hps h20 hj hb cap R ro rL rd i (r + 1) (by omega) hR hlf
    exact (Reaches.oneK hst).trans (go_roundst ps hps h20 hj hb cap r (i + 1) X _ _ d (by omega) (lf_ofX X) (by rw [lf_def]; exact hX))
theorem go_firstt [G512] [G384] (ps : List Pt) (hps : PtsOK ps) (h20 : ps.length ≤ 20) (hj : (jn ps).length ≤ 600) (hb : isBs (jn ps)) (cap : Nat) (jj : Nat) (hi : 0 < ps.length) : ∃ X d, lf X = lf (jn (ps.take 1)) ∧ Reaches Tryd.prog 0 (inAt fL_go 10 [] jj) (goI (pv ps) cap true 48 (g2 kStart384) 0) (hdAt fL_go 10 [] jj) (goS (pv ps) cap true 48 (g2 (abA kStart384 (jn (ps.take 1)))) X (jn (ps.take 1)) (128 * KN X) (X.length - 128 * KN X) d (jn (ps.take 1)).length (jn (ps.take 1)).length ((1 : Nat) : Int)) := by
  have h8 : kStart384.length = 8 := rfl
  have hj1 := jn_le ps 1
  have hb1 : isBs (jn (ps.take 1)) := fun z hz => hb z (jn_mem hz)
  have hj1e : jn (ps.take 1) = ps[0].2.2 := by
    have := jn_take hi
    rw [List.take_zero] at this
    exact this
  have hp := part_le hi
  rcases hps _ (List.getElem_mem hi) with htr | ⟨hz0, hz1⟩
  · have hrun := go_inI (pv ps) cap ps true 48 (g2 kStart384) 0 jj ps[0].2.2 ps[0].1 ps[0].2.1
    rw [Nat.zero_add, List.take_length, cutI_all, keyL_g2 h8, List.nil_append, widths_o, Int.zero_add, ← hj1e] at hrun
    refine ⟨_, _, rfl, (Reaches.runK tyT_ok (goOT_ok ps) mixed_ hrun ?_).trans (go_tellt ps cap (jn (ps.take 1)) (jn (ps.take 1)) _ (jn (ps.take 1)).length 0 jj (by omega) hb1 (by omega) (by omega) rfl (jn (ps.take 1)) (Nat.le_refl _))⟩
    rw [vs_w, pv_len, hj1e]
    refine ⟨tB_lt.2 (by omega), by omega, by omega, by omega, vs_get _ _ _ (pv_get hi), htr, ⟨rfl, rfl⟩, by omega, by omega, by omega, ⟨rfl, h8, by simp only [List.length_nil]; omega, by omega, by omega⟩, rfl, by omega, by omega, trivial⟩
  · have hg := pv_get hi
    rw [hz0, hz1] at hg
    have hjt : jn (ps.take 1) = [] := by rw [hj1e, hz0]
    have e0 : abA kStart384 [] = kStart384 := rfl
    have l0 : lf [] = [] := rfl
    have hrun := go_zIt (pv ps) cap ps (g2 kStart384) 0 jj ps[0].1
    have hSL := shaL_len kStart384 []
    have hsw : sumW kStart384 [] 0 = shaL kStart384 [] := sumW_eq kStart384 [] 0 rfl
    have hq : cutI ([] : List Int) 0 0 = [] := rfl
    rw [hq, keyL_g2 h8, List.append_nil, e0, keyL_g2 h8, l0, List.length_nil, Int.natCast_zero, Int.add_zero, hsw, take_key _ 48 hSL (by omega)] at hrun
    rw [hjt]
    refine ⟨[], _, rfl, (Reaches.runK tyT_ok (goOT_ok ps) mixed_ hrun ?_).trans (Reaches.roundsK (48 + 1) (go_ds (pv ps) cap ps true 48 (g2 (abA kStart384 [])) [] [] _ _ _ _ 48 _ 0 jj (by omega) (by omega) 48 0 (shaL kStart384 []) (by rw [hSL]; omega) (by omega)))⟩
    rw [vs_w, pv_len]
    have hbs : isBs ([] : List Int) ∧ ([] : List Int).length ≤ 900000 := ⟨fun z hz => absurd hz List.not_mem_nil, by decide⟩
    refine ⟨tB_lt.2 (by omega), by omega, by omega, by omega, vs_get _ _ _ hg, ⟨rfl, rfl⟩, by decide, ⟨rfl, h8, by decide, by decide, by decide⟩, rfl, by decide, ⟨h8, by decide, by decide, by decide, by decide⟩, by decide, hbs, by decide, hbs, by rw [widths_o]; omega, ?_, h8, ?_, trivial⟩
    · rw [tB_iff, beq_self_eq_true]; rfl
    · rw [tB_iff]; rfl
theorem go_t [G512] [G384] (ps : List Pt) (hps : PtsOK ps) (h20 : ps.length ≤ 20) (hj : (jn ps).length ≤ 600) (hb : isBs (jn ps)) (cap : Nat) : From Tryd.prog fL_go (goA (pv ps) cap true) (lvP (pv ps)) 1 [] [.fin] (goE (pv ps)) := by
  have hJ : pv ps = pv ps ∧ PtsOK ps ∧ (jn ps).length ≤ 2000000 ∧ ps.length ≤ 2000000 := ⟨rfl, hps, by omega, by omega⟩
  have hst := From.run tyT_ok (goOT_ok ps) mixed_ (go_startt (pv ps) cap ps) ⟨trivial, rfl, ⟨rfl, by decide, by decide, by decide, by decide⟩, tB_le.2 (by rw [pv_len]; omega), rfl, hJ, tB_le.2 (by omega), trivial, trivial, trivial⟩
  have had : Reaches Tryd.prog 0 (toAt fL_go 10 []) (goI0 (pv ps) cap true 48 (g2 kStart384) 0) (toAt fL_go 10 []) (goI (pv ps) cap true 48 (g2 kStart384) 0) := Reaches.adoptK (m := 1) (es := [1, 2]) (ks := [1, 5, 6, 27, 28, 29]) 5 .u8 (t := 6) (by kernel_rfl) (by kernel_rfl)
  refine (hst.trans had).trans (Reaches.roundsK (ps.length + 1) ?_)
  by_cases hne : 0 < ps.length
  · obtain ⟨r, hr⟩ : ∃ r, ps.length = r + 1 := ⟨ps.length - 1, by omega⟩
    obtain ⟨X, d, hX, hs1⟩ := go_firstt ps hps h20 hj hb cap (r + 1) hne
    rw [hr]
    exact (Reaches.oneK hs1).trans (go_roundst ps hps h20 hj hb cap r 1 X _ _ d (by omega) (lf_ofX X) (by rw [lf_def]; exact hX))
  · have h0 : ps.length = 0 := by omega
    rw [h0]
    exact Reaches.oneK (Reaches.runK tyT_ok (goOT_ok ps) mixed_ (go_endI (pv ps) cap ps true 48 _ 0 0) ⟨tB_nlt.2 (by rw [pv_len]; omega), trivial⟩)
theorem go_ok [G512] [G384] (ps : List Pt) (hps : PtsOK ps) (hn : ps.length ≤ 2000000) (hj : (jn ps).length ≤ 2000000) (hb : isBs (jn ps)) (cap : Nat) (b : Bool) : From Tryd.prog fL_go (goA (pv ps) cap b) (lvP (pv ps)) 1 [] [.fin] (goE (pv ps)) := by
  have hJ : pv ps = pv ps ∧ PtsOK ps ∧ (jn ps).length ≤ 2000000 ∧ ps.length ≤ 2000000 := ⟨rfl, hps, hj, hn⟩
  by_cases h1 : ps.length ≤ 20
  · by_cases h2 : (jn ps).length ≤ 600
    · cases b
      · exact go_f ps hps h1 h2 hb cap
      · exact go_t ps hps h1 h2 hb cap
    · exact From.run tyT_ok (goOB_ok ps) mixed_ (go_longB (pv ps) cap ps b) ⟨trivial, rfl, ⟨rfl, by decide, by decide, by decide, by decide⟩, tB_le.2 (by rw [pv_len]; omega), rfl, hJ, tB_nle.2 (by omega), trivial, rfl, ⟨rfl, by decide, by decide, by decide, by decide⟩, trivial⟩
  · exact From.run tyT_ok (goOA_ok ps) mixed_ (go_longA (pv ps) cap ps b) ⟨trivial, rfl, ⟨rfl, by decide, by decide, by decide, by decide⟩, tB_nle.2 (by rw [pv_len]; omega), trivial, rfl, ⟨rfl, by decide, by decide, by decide, by decide⟩, trivial⟩
theorem lawGoes_fact [G512] [G384] (ps : List Pt) (a : Option Addr) (cap : Nat) (b : Bool) {W : World} (hgw : GWok W.heap.size [] W) (hps : PtsOK ps) (hn : ps.length ≤ 2000000) (hj : (jn ps).length ≤ 2000000) (hb : isBs (jn ps)) (h1 : ps.length ≤ cap) (h2 : pv ps = [] ∨ ∃ x, a = some x ∧ ∀ j u, (pv ps)[j]? = some u → W.cell? (x.add j) = some u) (h3 : ∀ x, a = some x → x.block < W.heap.size) : Calls Tryd.prog 3 #[.slice a ps.length cap, .bool b] W fun e w' => e = .returned (.bool true) ∧ Below W.heap.size W w' := by
  have hG := hr_vs a cap (pv ps) (by rw [pv_len]; exact h1) h2 h3 hgw
  have := law_reach Tryd.func3 (go_ok ps hps hn hj hb cap b) (.inr rfl) (by kernel_rfl) (by kernel_rfl) (by kernel_rfl) hG
  simp only [goA, List.map_cons, List.map_nil, conc_s0, pv_len] at this
  exact this
end
end Go.Proofs.YtmhmfmnjdbehcaaDoor.Am
/- Opening a slice of slices of bytes at a law's call, whose bulk is bounded. Conditions: none. -/
namespace Go.Proofs.YtmhmfmnjdbehcaaDoor
set_option linter.unusedVariables false
set_option linter.unusedSimpArgs false
open Go Go.ChangeShapes Go.WideShapes Go.ChangeAt Go.RowKit
/-- Where a part's bytes lie. -/
def PartAt (W : World) (x : Am.Pt) : Prop :=
  x.2.2.length ≤ x.2.1 ∧ (x.2.2 = [] ∧ x.2.1 = 0 ∨ ∃ y cs ty mk, x.1 = some y ∧ W.heap[y.block]? = some (.cells cs ty mk) ∧ ∀ (j : Nat) (u : Value), (x.2.2.map (Value.int .u8))[j]? = some u → (y.add j).spot = none ∧ cs.toList[(y.add j).off]? = some u)
theorem bulk_lits {H : Type} (k : IntKind) : ∀ zs : List Int, Rows.uptoBulkAll (lits (H := H) k zs) = zs.length
  | [] => rfl
  | z :: zs => by
    have ih := bulk_lits (H := H) k zs
    unfold lits at ih ⊢
    simp only [List.map_cons, Rows.uptoBulkAll, ih, Rows.uptoBulk, List.length_cons]
    omega
theorem cell_block {W : World} {a : Addr} {v : Value} (h : W.cell? a = some v) : ∃ cs ty mk, W.heap[a.block]? = some (.cells cs ty mk) ∧ a.spot = none ∧ cs.toList[a.off]? = some v := by
  unfold World.cell? at h
  split at h
  · rename_i cs ty mk hb
    split at h
    · cases h
    · rename_i hs
      refine ⟨cs, ty, mk, hb, ?_, by rw [Array.getElem?_toList]; exact h⟩
      cases hsp : a.spot with
      | none => rfl
      | some x => rw [hsp] at hs; exact absurd rfl hs
  · cases h
theorem add_block (a : Addr) (n : Nat) : (a.add n).block = a.block := by
  unfold Addr.add
  split <;> rfl
/-- A part that comes in. -/
theorem open_part {H : Type} {enc : TypeId × Value → H} {W : World} {base : Nat} {held : Bool} {v : Value} {x : DataW H × List MemPlace} {fuel : Nat} {t e : TypeId}
    (ht : Tryd.prog.underlying t = some (.slice e)) (he : Tryd.prog.underlying e = some (.int .u8)) (hce : Tryd.prog.cellsOf e = 1)
    (hf : DataW.trod enc Tryd.prog W base (fun _ => true) held fuel t [v] = some x) :
    ∃ y : Am.Pt, v = .slice y.1 y.2.2.length y.2.1 ∧ PartAt W y ∧ (∀ z ∈ y.2.2, (Lit.int .u8 z).wf = true) ∧ y.2.2.length + 1 ≤ Rows.uptoBulk x.1 := by
  rcases open_ints ht he hce hf with ⟨hcs, rfl⟩ | ⟨a, l, c, zs, hcs, _, hl, _, hz, rfl, hcell, hwz⟩
  · simp at hcs
    subst hcs
    refine ⟨(none, 0, []), rfl, ⟨Nat.le_refl _, .inl ⟨rfl, rfl⟩⟩, by simp, ?_⟩
    simp [Rows.uptoBulk]
  · simp at hcs
    subst hcs
    rw [if_pos rfl] at hz
    have hlen : (zs.take l).length = l := by rw [List.length_take]; omega
    refine ⟨(some a, c, zs.take l), by rw [hlen], ⟨by rw [hlen]; exact hl, ?_⟩, fun z hz' => hwz z (List.mem_of_mem_take hz'), ?_⟩
    · by_cases hc0 : c = 0
      · refine .inl ⟨List.length_eq_zero_iff.1 (by rw [hlen]; omega), hc0⟩
      · obtain ⟨cs, ty, mk, hb, _, _⟩ := cell_block (hcell 0 (by omega))
        rw [add_block] at hb
        refine .inr ⟨a, cs, ty, mk, rfl, hb, fun j u hj => ?_⟩
        have hjl : j < l := by
          have := (List.getElem?_eq_some_iff.1 hj).1
          rw [List.length_map, hlen] at this
          exact this
        rw [List.getElem?_map, List.getElem?_take, if_pos hjl, List.getElem?_eq_getElem (by omega)] at hj
        simp only [Option.map_some, Option.some.injEq] at hj
        subst hj
        obtain ⟨cs', ty', mk', hb', hs, hv⟩ := cell_block (hcell j (by omega))
        rw [add_block, hb] at hb'
        injection hb' with hb'
        injection hb' with e1 _ _
        subst e1
        refine ⟨hs, ?_⟩
        rw [hv, List.getD_eq_getElem?_getD, List.getElem?_eq_getElem (show j < zs.length by omega)]
        rfl
    · simp only [Rows.uptoBulk, bulk_lits, List.length_take, List.length_drop]
      omega
theorem jn_bulk {H : Type} : ∀ (l : List Am.Pt) (ds : List (DataW H)), l.length = ds.length → (∀ (i : Nat) x d, l[i]? = some x → ds[i]? = some d → x.2.2.length + 1 ≤ Rows.uptoBulk d) → (Am.jn l).length + l.length ≤ Rows.uptoBulkAll ds
  | [], ds, _, _ => Nat.zero_le _
  | x :: l, [], h, _ => by cases h
  | x :: l, d :: ds, h, hh => by
    have ih := jn_bulk l ds (by simpa using h) (fun i y e h1 h2 => hh (i + 1) y e (by simpa using h1) (by simpa using h2))
    have h0 := hh 0 x d rfl rfl
    unfold Am.jn at ih ⊢
    simp only [List.flatMap_cons, List.length_append, List.length_cons, Rows.uptoBulkAll]
    omega
/-- A slice of slices of bytes that comes in. -/
theorem open_slsl {H : Type} {enc : TypeId × Value → H} {W : World} {base b0 : Nat} {held : Bool} {v : Value} {d : DataW H} {ps : List MemPlace} {t s e : TypeId}
    (ht : Tryd.prog.underlying t = some (.slice s)) (hs : Tryd.prog.underlying s = some (.slice e)) (he : Tryd.prog.underlying e = some (.int .u8)) (hcs : Tryd.prog.cellsOf s = 1) (hce : Tryd.prog.cellsOf e = 1)
    (hval : Value.okWide Tryd.prog W .any b0 t v) (h : DataW.Trod enc Tryd.prog W base (fun _ => true) held t v d ps) (B : Nat) (hB : Rows.uptoBulk d ≤ B) :
    ∃ a cap, ∃ l : List Am.Pt, v = .slice a l.length cap ∧ l.length ≤ cap ∧ (Am.pv l = [] ∨ ∃ x, a = some x ∧ ∀ j u, (Am.pv l)[j]? = some u → W.cell? (x.add j) = some u) ∧ (∀ x, a = some x → x.block < W.heap.size) ∧ (∀ x ∈ l, PartAt W x ∧ ∀ z ∈ x.2.2, (Lit.int .u8 z).wf = true) ∧ l.length ≤ B ∧ (Am.jn l).length ≤ B := by
  obtain ⟨a, len, cap, rfl⟩ := okWide_slice ht hval
  have hlt : ∀ x, a = some x → x.block < W.heap.size := fun x hx => by
    subst hx
    simp only [Value.okWide, ht, Cell.okWide, Cell.ok] at hval
    exact has_lt hval.2.2
  obtain ⟨fuel, hf⟩ := h
  rcases DataW.trod_slice ht hf with ⟨hc, _⟩ | ⟨x, l, c, elems, rest, n, _, hc, hx, _, hl, _, hlen, hel, _, _⟩
  · simp [Value.cells] at hc
    obtain ⟨rfl, rfl, rfl⟩ := hc
    exact ⟨none, 0, [], rfl, Nat.le_refl _, .inl rfl, (fun x hx => by cases hx), (fun x hx => absurd hx List.not_mem_nil), Nat.zero_le _, Nat.zero_le _⟩
  · simp [Value.cells] at hc
    obtain ⟨rfl, rfl, rfl⟩ := hc
    have hpt : ∀ i, ∃ y : Am.Pt, ∀ q, elems[i]? = some q → W.cell? (x.add i) = some (.slice y.1 y.2.2.length y.2.1) ∧ PartAt W y ∧ (∀ z ∈ y.2.2, (Lit.int .u8 z).wf = true) ∧ y.2.2.length + 1 ≤ Rows.uptoBulk q.1 := fun i => by
      cases hq : elems[i]? with
      | none => exact ⟨(none, 0, []), fun q hq' => by cases hq'⟩
      | some q =>
        have hi : i < len := by have := (List.getElem?_eq_some_iff.1 hq).1; omega
        have h1 := hel i hi
        rw [hq, hcs, Nat.mul_one, Option.bind_eq_some_iff] at h1
        obtain ⟨cs', h2, h3⟩ := h1
        obtain ⟨_, h4, h5⟩ := World.cells?_some h2
        match cs', h4 with
        | [v], _ =>
          obtain ⟨y, rfl, y2, y3, y4⟩ := open_part hs he hce h3
          refine ⟨y, fun q' hq' => ?_⟩
          injection hq' with hq'
          subst hq'
          have := h5 0 (by omega)
          rw [show (x.add i).add 0 = x.add i by unfold Addr.add; rw [if_pos rfl]] at this
          exact ⟨this, y2, y3, y4⟩
    have hget : ∀ i q, elems[i]? = some q → _ := fun i => Classical.choose_spec (hpt i)
    have hL : ((List.range len).map fun i => Classical.choose (hpt i)).length = len := by rw [List.length_map, List.length_range]
    have hq : ∀ i, i < len → ∃ q, elems[i]? = some q := fun i hi => ⟨elems[i], List.getElem?_eq_getElem (by omega)⟩
    have hli : ∀ (i : Nat) y, ((List.range len).map fun i => Classical.choose (hpt i))[i]? = some y → i < len ∧ y = Classical.choose (hpt i) := fun i y hy => by
      have hi := (List.getElem?_eq_some_iff.1 hy).1
      rw [hL] at hi
      rw [List.getElem?_map, List.getElem?_range hi] at hy
      injection hy with hy
      exact ⟨hi, hy.symm⟩
    have hb : (Am.jn ((List.range len).map fun i => Classical.choose (hpt i))).length + ((List.range len).map fun i => Classical.choose (hpt i)).length ≤ Rows.uptoBulkAll (elems.map (·.1)) := by
      refine jn_bulk _ _ (by rw [hL, List.length_map, hlen]) fun i y d' h1 h2 => ?_
      obtain ⟨hi, rfl⟩ := hli i y h1
      obtain ⟨q, hq⟩ := hq i hi
      rw [List.getElem?_map, hq] at h2
      injection h2 with h2
      subst h2
      exact (hget i q hq).2.2.2
    have hd : Rows.uptoBulkAll (elems.map (·.1)) ≤ B := by
      have : d = _ := congrArg Prod.fst hx
      subst this
      simp only [Rows.uptoBulk] at hB
      omega
    refine ⟨some x, cap, (List.range len).map fun i => Classical.choose (hpt i), by rw [hL], by rw [hL]; exact hl, .inr ⟨x, rfl, fun j u hj => ?_⟩, hlt, fun y hy => ?_, by omega, by omega⟩
    · unfold Am.pv at hj
      rw [List.getElem?_map, Option.map_eq_some_iff] at hj
      obtain ⟨y, hy, rfl⟩ := hj
      obtain ⟨hi, rfl⟩ := hli j y hy
      obtain ⟨q, hq⟩ := hq j hi
      exact (hget j q hq).1
    · obtain ⟨i, hi0⟩ := List.getElem?_of_mem hy
      obtain ⟨hi, rfl⟩ := hli i y hi0
      obtain ⟨q, hq⟩ := hq i hi
      exact ⟨(hget i q hq).2.1, (hget i q hq).2.2.1⟩
/-- The blocks that hold the parts. -/
def ptTab (W : World) (l : List Am.Pt) : List (Nat × List Value) := l.filterMap fun x => match x.1 with
  | some y => match W.heap[y.block]? with
    | some (.cells cs _ _) => some (y.block, cs.toList)
    | _ => none
  | none => none
theorem ptTab_gw {W : World} {l : List Am.Pt} {x : Nat × List Value} (h : x ∈ ptTab W l) : x.1 < W.heap.size ∧ x.1 ∉ ([] : List Nat) ∧ ∃ cs ty mk, W.heap[x.1]? = some (.cells cs ty mk) ∧ cs.toList = x.2 := by
  unfold ptTab at h
  obtain ⟨y, _, hy⟩ := List.mem_filterMap.1 h
  split at hy
  · split at hy
    · rename_i cs ty mk hb
      injection hy with hy
      subst hy
      exact ⟨(Array.getElem?_eq_some_iff.1 hb).1, List.not_mem_nil, cs, ty, mk, hb, rfl⟩
    · cases hy
  · cases hy
theorem ptTab_row {W : World} {l : List Am.Pt} {tab : List (Nat × List Value)} (ht : ∀ x ∈ ptTab W l, x ∈ tab) {p : Am.Pt} (hp : p ∈ l) (h : PartAt W p) : Am.TabRow tab p.1 p.2.2.length p.2.1 .u8 p.2.2 ∨ (p.2.2 = [] ∧ p.2.1 = 0) := by
  obtain ⟨h1, h2 | ⟨y, cs, ty, mk, h3, h4, h5⟩⟩ := h
  · exact .inr h2
  · refine .inl ⟨rfl, h1, .inr ⟨y, h3⟩, fun y' hy' => ?_⟩
    rw [h3] at hy'
    injection hy' with hy'
    subst hy'
    refine ⟨(y.block, cs.toList), ht _ (List.mem_filterMap.2 ⟨p, hp, ?_⟩), rfl, h5⟩
    rw [h3]
    simp only [h4]
end Go.Proofs.YtmhmfmnjdbehcaaDoor
