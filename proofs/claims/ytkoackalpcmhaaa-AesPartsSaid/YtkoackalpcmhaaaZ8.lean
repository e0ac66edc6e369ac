/- Opening slices of integers at a law's call, as the machine takes them; and a law's call. Conditions: none. -/
import Derived.Test.YtkoackalpcmhaaaZ7
import Derived.Test.YtkoackalpcmhaaaZ6
import Derived.ChangeSlices
import Derived.KernelRfl
import Derived.Test.YtkoackalpcmhaaaZ1
set_option linter.unusedSectionVars false
namespace Go.Proofs.Ytkoackalpcmhaaa
set_option linter.unusedVariables false
set_option linter.unusedSimpArgs false
open Go Go.ChangeShapes Go.WideShapes Go.ChangeAt Go.RowKit

theorem has_lt {P : Program} {w : World} {r : Reach} {base : Nat} {a : Addr} {e : TypeId} {n : Nat} (h : w.has P r base a e n) : a.block < w.heap.size := by
  obtain ⟨_, _, row, cells, hs, _⟩ := h
  unfold World.shape? at hs
  split at hs
  · rename_i hb
    exact (Array.getElem?_eq_some_iff.1 hb).1
  all_goals first | cases hs | (rename_i hb; exact (Array.getElem?_eq_some_iff.1 hb).1)
/-- A slice of integers that comes in. -/
theorem open_sl {H : Type} {enc : TypeId × Value → H} {W : World} {base : Nat} {b0 : Nat} {spare : Nat → Bool} {held : Bool} {v : Value} {d : DataW H} {ps : List MemPlace} {t e : TypeId} {k : IntKind}
    (ht : Try.prog.underlying t = some (.slice e)) (he : Try.prog.underlying e = some (.int k)) (hce : Try.prog.cellsOf e = 1)
    (hval : Value.okWide Try.prog W .any b0 t v) (h : DataW.Trod enc Try.prog W base spare held t v d ps) :
    ∃ a cap, ∃ zs : List Int, v = .slice a zs.length cap ∧ Am.RowAt W ⟨a, cap⟩ k zs ∧ ∀ z ∈ zs, (Lit.int k z).wf = true := by
  obtain ⟨a, len, cap, rfl⟩ := okWide_slice ht hval
  have hlt : ∀ x, a = some x → x.block < W.heap.size := fun x hx => by
    subst hx
    simp only [Value.okWide, ht, Cell.okWide, Cell.ok] at hval
    exact has_lt hval.2.2
  obtain ⟨fuel, hf⟩ := h
  rcases open_ints ht he hce hf with ⟨hcs, _⟩ | ⟨x, l, c, zs, hcs, _, hl, hm, hz, _, hcell, hwz⟩
  · simp [Value.cells] at hcs
    obtain ⟨rfl, rfl, rfl⟩ := hcs
    exact ⟨none, 0, [], rfl, ⟨Nat.le_refl _, .inl rfl, fun x hx => by cases hx⟩, by simp⟩
  · simp [Value.cells] at hcs
    obtain ⟨rfl, rfl, rfl⟩ := hcs
    have hzl : len ≤ zs.length := by rw [hz]; split <;> omega
    have hlen : (zs.take len).length = len := by rw [List.length_take]; omega
    refine ⟨some x, cap, zs.take len, by rw [hlen], ⟨by rw [hlen]; exact hl, .inr ⟨x, rfl, fun j u hj => ?_⟩, hlt⟩, fun z hz' => hwz z (List.mem_of_mem_take hz')⟩
    have hjl : j < len := by
      have := (List.getElem?_eq_some_iff.1 hj).1
      rw [List.length_map, hlen] at this; exact this
    rw [List.getElem?_map, List.getElem?_take, if_pos hjl, List.getElem?_eq_getElem (by omega)] at hj
    simp only [Option.map_some, Option.some.injEq] at hj
    subst hj
    have := hcell j (by omega)
    simpa [List.getD_eq_getElem?_getD, List.getElem?_eq_getElem (show j < zs.length by omega)] using this
end Go.Proofs.Ytkoackalpcmhaaa
namespace Go.Proofs.Ytkoackalpcmhaaa.Am
open Go Go.RowKit
variable [GT]
omit [GT] in
/-- Rows that come in, as blocks to be read. -/
def rowsH : List (Loc × IntKind × List Int) → Nat → List (Nat × Blk)
  | [], _ => []
  | (_, k, zs) :: l, n => (n, ⟨2, 0, [.arr k zs]⟩) :: rowsH l (n + 1)
omit [GT] in
theorem rowsH_spec : ∀ (l : List (Loc × IntKind × List Int)) (n i : Nat) (b : Blk), look (rowsH l n) i = some b → n ≤ i ∧ i < n + l.length ∧ ∃ x, l[i - n]? = some x ∧ b = ⟨2, 0, [.arr x.2.1 x.2.2]⟩
  | [], n, i, b, h => by cases h
  | (g, k, zs) :: l, n, i, b, h => by
    simp only [rowsH, look_cons] at h
    by_cases hi : n = i
    · subst hi
      rw [if_pos rfl] at h
      injection h with h
      subst h
      exact ⟨Nat.le_refl _, by simp, (g, k, zs), by simp, rfl⟩
    · rw [if_neg hi] at h
      obtain ⟨h1, h2, x, hx, hb⟩ := rowsH_spec l (n + 1) i b h
      refine ⟨by omega, by simp only [List.length_cons]; omega, x, ?_, hb⟩
      rw [show i - n = (i - (n + 1)) + 1 by omega, List.getElem?_cons_succ]
      exact hx
theorem hr_rows {w : World} (l : List (Loc × IntKind × List Int)) (h : ∀ x ∈ l, RowAt w x.1 x.2.1 x.2.2) (hgw : GWok w.heap.size [] w) : HR (fun i => (l.map (·.1)).getD i ⟨none, 0⟩) (· < l.length) w.heap.size [] (look (rowsH l 0)) w := by
  have hall : ∀ i b, look (rowsH l 0) i = some b → i < l.length ∧ ∃ k zs, b = ⟨2, 0, [.arr k zs]⟩ ∧ RowAt w ((l.map (·.1)).getD i ⟨none, 0⟩) k zs := fun i b hb => by
    obtain ⟨_, h2, x, hx, rfl⟩ := rowsH_spec _ _ _ _ hb
    rw [Nat.sub_zero] at hx
    refine ⟨by omega, _, _, rfl, ?_⟩
    have e : (l.map (·.1)).getD i ⟨none, 0⟩ = x.1 := by simp [List.getD_eq_getElem?_getD, hx]
    rw [e]
    exact h x (List.mem_of_getElem? hx)
  refine ⟨Nat.le_refl _, fun i b hb => ?_, fun i b x hb hx => ?_, fun i b x hb hk hx => ?_, fun i j bi bj x y hi hj hij hk hx hy => ?_, hgw⟩
  · obtain ⟨h2, k, zs, rfl, h3, h4, _⟩ := hall i b hb
    refine ⟨h2, fun s hs => (by simp at hs; subst hs; trivial), ?_⟩
    show (segsVals _ _).length ≤ _ ∧ _
    rw [segsVals_one]
    refine ⟨by simpa [Seg.vals] using h3, ?_⟩
    rcases h4 with rfl | h4
    · exact .inl rfl
    · exact .inr h4
  · obtain ⟨_, k, zs, rfl, _, _, h5⟩ := hall i b hb
    exact h5 x hx
  · obtain ⟨_, k, zs, rfl, _⟩ := hall i b hb
    simp at hk
  · obtain ⟨_, k, zs, rfl, _⟩ := hall i bi hi
    simp at hk
/-- A law's run that ends in true. -/
theorem law_reach {f : FuncId} {fn : Func} (hf : Try.prog.funcs[f]? = some fn) {avs : List SV} {hp : List (Nat × Blk)} {k : Nat} {todo : List AI} {st : St} (hR : From Try.prog fn avs hp k [] todo st) (hfin : todo = [] ∨ todo = [.fin]) (hv : resVal tyT st fn.results.toList = some (ofV (.bool true))) (hlen : Nat.ble avs.length fn.ntmps = true) (hin : avs.all (svB fun i => Nat.blt i k) = true) {ρc : Nat → Loc} {w : World} (hG : HR ρc (· < k) w.heap.size [] (look hp) w) :
    Calls Try.prog f (avs.map (SV.conc ρc)).toArray w fun e w' => e = .returned (.bool true) ∧ Below w.heap.size w w' := by
  obtain ⟨c, hc, hRe⟩ := hR
  exact reach_val tyT_ok hf hc hfin hRe hv (by rfl) hlen (fun s hs => svB_in (f := fun i => Nat.blt i k) (fun i h => Nat.le_of_ble_eq_true h) (List.all_eq_true.1 hin s hs)) hG (fun _ => ⟨none, 0⟩)
omit [GT] in
theorem conc_s0 {ρ : Nat → Loc} {i n cap : Nat} : SV.conc ρ (.av (.one (.s i 0 n cap))) = .slice (ρ i).a n cap := by
  simp only [SV.conc, AV.conc, Seg.conc]
  cases (ρ i).a <;> simp [Addr.add]
end Go.Proofs.Ytkoackalpcmhaaa.Am
/- Law 05's Streams: the law. Conditions: none. -/
namespace Go.Proofs.Ytkoackalpcmhaaa.Am
set_option linter.unusedVariables false
set_option linter.unusedSimpArgs false
open Go Go.RowKit
set_option linter.unusedSectionVars false
variable [GT]
theorem strm_take (ks : List Int) : ∀ (m n : Nat) (b : List Int) (a : Nat), a ≤ 16 * m → m ≤ n → (strm ks n b).take a = (strm ks m b).take a
  | 0, n, b, a, h, _ => by
    have : a = 0 := by omega
    subst this
    rw [List.take_zero, List.take_zero]
  | m + 1, 0, b, a, _, h => by omega
  | m + 1, n + 1, b, a, h, h' => by
    unfold strm
    rw [List.take_append, List.take_append, encL_len, strm_take ks m n (nextL b) (a - 16) (by omega) (by omega)]
theorem strm_drop (ks : List Int) (n : Nat) (b : List Int) : (strm ks (n + 1) b).drop 16 = strm ks n (nextL b) := by
  have : strm ks (n + 1) b = encL ks b ++ strm ks n (nextL b) := rfl
  rw [this]
  have h := encL_len ks b
  rw [← h, List.drop_left]
theorem strOf_size (l : List Int) : (strOf l).size = l.length := by
  show (l.map _).toArray.size = _
  simp
theorem strOf_extract (l : List Int) (a : Nat) : (strOf l).extract 0 a = strOf (l.take a) := by
  apply ByteArray.ext
  rw [ByteArray.data_extract]
  apply Array.toList_inj.1
  simp [strOf]
theorem ls_ok (kf bf : Nat → Int) (p q : Int) (a c : Nat) (ha : a < 80) (hc : c < 80) (hp : Int.tmod p 80 = a) (hq : Int.tmod q 80 = c) (hk : ∀ j, inR (kf j)) : AllP (lsP kf bf p q a c) := by
  have n1 : (a + c + 16 + 15) / 16 = (a + c + 15) / 16 + 1 := by omega
  have S1 : (lsS kf bf ((a + c + 16 + 15) / 16)).length = 16 * ((a + c + 15) / 16 + 1) := by rw [n1]; exact strm_len _ _ _
  have S0 : (lsS kf bf ((a + 15) / 16)).length = 16 * ((a + 15) / 16) := strm_len _ _ _
  have X0 : (lsX kf bf ((a + 15) / 16)).length = 16 * ((a + 15) / 16) := strm_len _ _ _
  have e1 : (lsS kf bf ((a + c + 16 + 15) / 16)).take a = (lsS kf bf ((a + 15) / 16)).take a := strm_take _ _ _ _ _ (by omega) (by omega)
  have hs : slOff 0 16 (a + c + 16) (a + c + 16) 1 = if a + c + 16 = 16 then 0 else 16 := by
    rw [slOff_eq _ _ _ _ _ (by omega)]
  have hQ : lsQ kf bf a c = strOf ((lsX kf bf ((a + c + 15) / 16)).take (a + c)) := by
    unfold lsQ
    rw [hs, List.append_nil]
    by_cases h0 : a + c + 16 = 16
    · have z : a + c = 0 := by omega
      rw [show a + c + 16 - 16 = 0 by omega, z, List.take_zero, List.take_zero]
    · rw [if_neg h0, n1, show a + c + 16 - 16 = a + c by omega]
      have : (lsS kf bf ((a + c + 15) / 16 + 1)).drop 16 = lsX kf bf ((a + c + 15) / 16) := strm_drop _ _ _
      rw [this]
  have X1 : (lsX kf bf ((a + c + 15) / 16)).length = 16 * ((a + c + 15) / 16) := strm_len _ _ _
  have e2 : (lsX kf bf ((a + c + 15) / 16)).take a = (lsX kf bf ((a + 15) / 16)).take a := strm_take _ _ _ _ _ (by omega) (by omega)
  have hQs : (lsQ kf bf a c).size = a + c := by
    rw [hQ, strOf_size, List.length_take, X1]
    omega
  have hQe : (lsQ kf bf a c).extract 0 a = strOf ((lsX kf bf ((a + 15) / 16)).take a ++ []) := by
    rw [hQ, strOf_extract, List.take_take, Nat.min_eq_left (by omega), e2, List.append_nil]
  have wp : tI .i64 (IntKind.i64.wrap (Int.tmod p 80)) (a : Nat) := by rw [hp, tI_64]; omega
  have wq : tI .i64 (IntKind.i64.wrap (Int.tmod q 80)) (c : Nat) := by rw [hq, tI_64]; omega
  have w1 : tI .i64 (IntKind.i64.wrap (((a + c + 16 : Nat) : Int) - 16)) ((a + c : Nat) : Int) := by
    rw [show ((a + c + 16 : Nat) : Int) - 16 = ((a + c : Nat) : Int) by omega, tI_64]; omega
  have w2 : tI .i64 (if ((a + c : Nat) : Int) < (a : Int) then ((a + c : Nat) : Int) else (a : Int)) (a : Int) := by
    rw [if_neg (by omega), tI_iff]
  refine ⟨⟨Nat.le_refl _, fun j hj => ?_⟩, wp, ⟨rfl, by omega, by omega⟩, wq, ?_, ?_, ⟨rfl, by omega, by omega⟩, ⟨rfl, by omega, by omega⟩, tB_eq.2 rfl, Nat.le_refl _, ⟨by omega, by omega⟩, by rw [widths_o, S1]; omega, by rw [widths_o, S0]; omega, ?_, w1, w2, Nat.le_refl _, ⟨by omega, Nat.le_refl _⟩, by rw [widths_o, X0]; omega, Nat.le_refl _, ⟨by omega, by omega⟩, ?_, w1, w2, ⟨by omega, by rw [hQs]; omega⟩, ?_, trivial⟩
  · rw [Nat.zero_add, g2_keyL 32 _ j hj]
    exact hk j
  · rw [show (a : Int) + (c : Int) = ((a + c : Nat) : Int) by omega, tI_64]; omega
  · rw [show ((a + c : Nat) : Int) + 16 = ((a + c + 16 : Nat) : Int) by omega, tI_64]; omega
  · rw [e1, tB_iff, beq_self_eq_true]
  · rw [hs, widths_o, S1]
    split <;> omega
  · rw [hQe, tB_iff, beq_self_eq_true]
theorem lawStreams_fact (key b s : List Int) (lk : key.length = 32) (lb : b.length = 16) (ls : s.length = 2) (wk : ∀ z ∈ key, (Lit.int .u8 z).wf = true) (ws : ∀ z ∈ s, (Lit.int .u8 z).wf = true) {W : World} (hgw : GWok W.heap.size [] W) : Calls Try.prog 7 #[.agg (key.map (Value.int .u8)).toArray, .agg (b.map (Value.int .u8)).toArray, .agg (s.map (Value.int .u8)).toArray] W fun e w' => e = .returned (.bool true) ∧ Below W.heap.size W w' := by
  obtain ⟨p, q, rfl⟩ : ∃ p q, s = [p, q] := by
    match s, ls with
    | [p, q], _ => exact ⟨p, q, rfl⟩
  have rp := wf_inR (ws p (by simp))
  have rq := wf_inR (ws q (by simp))
  obtain ⟨p0, p1⟩ := rp
  obtain ⟨q0, q1⟩ := rq
  have hp : Int.tmod p 80 = ((p.toNat % 80 : Nat) : Int) := by rw [Int.tmod_eq_emod_of_nonneg p0]; omega
  have hq : Int.tmod q 80 = ((q.toNat % 80 : Nat) : Int) := by rw [Int.tmod_eq_emod_of_nonneg q0]; omega
  have hR := From.run tyT_ok lsO_ok mixed_ (ls_run (g2 key) (g2 b) p q (p.toNat % 80) (q.toNat % 80)) (ls_ok (g2 key) (g2 b) p q _ _ (Nat.mod_lt _ (by decide)) (Nat.mod_lt _ (by decide)) hp hq (wf_g2 wk))
  have := law_reach Try.func7 hR (.inr rfl) (by kernel_rfl) (by kernel_rfl) (by kernel_rfl) (hr_rows [] (fun x hx => by cases hx) hgw)
  simp only [lsA, List.map_cons, List.map_nil, keyL_g2 lk, keyL_g2 lb] at this
  exact this
end Go.Proofs.Ytkoackalpcmhaaa.Am
/- Law 05's Parts. Conditions: none. -/
namespace Go.Proofs.Ytkoackalpcmhaaa.Am
set_option linter.unusedVariables false
set_option linter.unusedSimpArgs false
open Go Go.RowKit
set_option linter.unusedSectionVars false
variable [GT]
noncomputable abbrev fLP : Func := Try.f9
noncomputable def lpO : List (Nat × Ent) := [(10, eTrue), (11, eNew), (18, eStream), (19, entB [.rd [.pi .u8, .ag .u8 240], .ag .u8, .rs [.sw .u8]] tuF)]
theorem lpO_ok : OOK Try.prog lpO := ook_of (l := [(10, eTrue), (11, eNew), (18, eStream), (19, entB [.rd [.pi .u8, .ag .u8 240], .ag .u8, .rs [.sw .u8]] tuF)]) ⟨awake_ent, new_ent, stream_ent, Turn_ent _, trivial⟩
def lpA (kf bf : Nat → Int) (n cap : Nat) : List SV := [.av (.one (.arr .u8 (keyL 32 kf))), .av (.one (.arr .u8 (keyL 16 bf))), .av (.one (.s 0 0 n cap))]
def lpP (b : List Int) : List (Nat × Blk) := [(0, ⟨2, 0, [.arr .u8 b]⟩)]
def lpS (b s x : List Int) (n cap i : Nat) : St := { tm := tmL 86 [(2, .av (.one (.s 0 0 n cap))), (9, .av (.one (.s 1 0 n n))), (10, .av (.one (.r 2 0 n 0))), (67, ofV (.int .i64 (n : Nat))), (68, ofV (.int .i64 (i : Nat)))], hp := [(0, ⟨2, 0, [.arr .u8 b]⟩), (1, ⟨1, 5, [.arr .u8 s]⟩), (2, ⟨1, 5, [.arr .u8 x]⟩)], nx := 3, gl := [] }
def lpE (b : List Int) : St := { tm := tmL 86 [(6, ofV (.bool true))], hp := [(0, ⟨2, 0, [.arr .u8 b]⟩)], nx := 1, gl := [] }
def lpH : Nat → Nat → Hint := atH 1 6 (isB false) (atH 7 5 (isB false) (atH 7 12 (isB false) (atH 7 17 symH (atH 7 20 symH (atH 7 22 symH (atH 7 24 (isB false) noH))))))
def lpZ (kf bf : Nat → Int) (b : List Int) : List Int := tuR (lsK kf) (keyL 16 bf) b
theorem lp_long (kf bf : Nat → Int) (b : List Int) (n cap : Nat) : runF tyT lpO (atH 1 6 (isB true) noH) [] 1 [] [6] fLP (lpA kf bf n cap) (lpP b) 1 [] = some ([.fin], lpE b, [tB (decide ((n : Int) > 150)) true]) := by kernel_rfl
theorem lp_run (kf bf : Nat → Int) (b : List Int) (cap : Nat) : runF tyT lpO lpH [] 1 [21, 41] [2, 9, 10, 67, 68] fLP (lpA kf bf b.length cap) (lpP b) 1 [] = some (toAt fLP 10 [], lpS b (lsS kf bf ((b.length + 15) / 16)) (lpZ kf bf b) b.length cap 0,
  [tB (decide ((b.length : Int) > 150)) false, 32 ≤ 32 ∧ ∀ j, j < 32 → inR (g2 (keyL 32 kf) (0 + j)), sbox = sbox ∧ 0 ≤ (b.length : Int) ∧ (b.length : Int) ≤ 1000000, b.length = b.length ∧ b.length ≤ cap, sbox = sbox ∧ (lsK kf).length = 240 ∧ (keyL 16 bf).length = 16 ∧ b.length ≤ 1000000,
   tB ((b.length : Int) != (b.length : Int)) false, tB ((b.length : Int) != (b.length : Int)) false, 0 ≤ (b.length : Int) ∧ b.length ≤ okSize, 0 ≤ (b.length : Int) ∧ b.length ≤ okSize, b.length * 2 ≤ 140737488355328, b.length = b.length,
   b.length = (List.replicate b.length (0 : Int)).length ∧ b.length ≤ b.length, sbox = sbox ∧ (lsK kf).length = 240 ∧ (keyL 16 bf).length = 16 ∧ (List.replicate b.length (0 : Int)).length ≤ 1000000,
   0 + (List.replicate b.length (0 : Int)).length ≤ widths [Seg.arr .u8 (lpZ kf bf (List.replicate b.length 0))], 0 + b.length ≤ widths [Seg.arr .u8 (lsS kf bf ((b.length + 15) / 16))],
   tB (!((strOf ((lpZ kf bf (List.replicate b.length 0)).take (List.replicate b.length (0 : Int)).length ++ [])).toList == (strOf ((lsS kf bf ((b.length + 15) / 16)).take b.length ++ [])).toList)) false]) := by kernel_rfl
theorem lp_go (b s x : List Int) (n cap i k : Nat) : runN tyT lpO (atH 10 0 (isB true) (atH 12 2 symH (atH 12 3 symH (atH 12 6 symH (atH 12 7 symH (atH 12 10 symH (atH 12 11 symH (atH 12 13 (isB false) (atH 14 0 (isI .i64 ((i + 1 : Nat) : Int)) noH))))))))) [] 2000 1 [1, 2] [2, 9, 10, 67, 68] (inAt fLP 10 [] k) (lpS b s x n cap i) = some (hdAt fLP 10 [] k, lpS b s x n cap (i + 1),
  [tB (decide ((i : Int) < (n : Int))) true, 0 + n ≤ widths [Seg.arr .u8 x], 0 ≤ (i : Int) ∧ i ≤ n - 1, 1 ≤ n, i < x.length, 0 + n ≤ widths [Seg.arr .u8 b], 0 ≤ (i : Int) ∧ i ≤ n - 1, 1 ≤ n, i < b.length, 0 + n ≤ widths [Seg.arr .u8 s], 0 ≤ (i : Int) ∧ i ≤ n - 1, 1 ≤ n, i < s.length, tB (x.getD i 0 != ixor .u8 (b.getD i 0) (s.getD i 0)) false, tI .i64 (IntKind.wrap .i64 ((i : Int) + 1)) ((i + 1 : Nat) : Int)]) := by kernel_rfl
theorem lp_end (b s x : List Int) (n cap i k : Nat) : runN tyT lpO (atH 10 0 (isB false) noH) [] 2000 1 [] [6] (inAt fLP 10 [] k) (lpS b s x n cap i) = some ([.fin], lpE b, [tB (decide ((i : Int) < (n : Int))) false]) := by kernel_rfl
theorem turnL_get (o st : List Int) (j : Nat) (h : j < o.length) : (turnL o st).getD j 0 = ixor .u8 (o.getD j 0) (st.getD j 0) := by
  unfold turnL
  rw [List.getD_eq_getElem?_getD, List.getElem?_map, List.getElem?_range h]
  rfl
theorem lp_rounds (b s : List Int) (cap : Nat) (h2 : b.length ≤ s.length) (h3 : b.length ≤ 1000000) : ∀ (k i : Nat), i + k = b.length → Reaches Try.prog 0 (hdAt fLP 10 [] (k + 1)) (lpS b s (turnL b s) b.length cap i) [.fin] (lpE b)
  | 0, i, h => by
    refine Reaches.one (Reaches.run tyT_ok lpO_ok mixed_ (lp_end _ _ _ _ _ _ _) ?_)
    simp only [allP_cons, allP_nil, and_true, tB_nlt]
    omega
  | k + 1, i, h => by
    refine (Reaches.one (Reaches.run tyT_ok lpO_ok mixed_ (lp_go _ _ _ _ _ _ _) ?_)).trans (lp_rounds b s cap h2 h3 k (i + 1) (by omega))
    simp only [allP_cons, allP_nil, and_true, tB_lt, widths_o, turnL_len, tI_iff, tB_nne, turnL_get b s i (by omega), true_and]
    have := w64 (z := (i : Int) + 1) (by omega) (by omega)
    omega
theorem ixor_zero {z : Int} (h : inR z) : ixor .u8 0 z = z := by
  obtain ⟨h0, h1⟩ := h
  unfold ixor
  have : (BitVec.ofInt IntKind.u8.bits 0 ^^^ BitVec.ofInt IntKind.u8.bits z).toNat = z.toNat := by
    show (BitVec.ofInt 8 0 ^^^ BitVec.ofInt 8 z).toNat = z.toNat
    rw [show BitVec.ofInt 8 0 = 0#8 from rfl, BitVec.zero_xor, BitVec.toNat_ofInt]
    omega
  rw [this, show ((z.toNat : Nat) : Int) = z by omega]
  exact w8 h0 (by omega)
theorem g2_getD (l : List Int) (j : Nat) : g2 l j = l.getD j 0 := by
  simp [g2]
theorem lp_zeros (ks b : List Int) (n : Nat) (h : ∀ z ∈ strm ks ((n + 15) / 16) b, inR z) : tuR ks b (List.replicate n 0) = (strm ks ((n + 15) / 16) b).take n := by
  unfold tuR turnL
  have hl : (strm ks ((n + 15) / 16) b).length = 16 * ((n + 15) / 16) := strm_len _ _ _
  rw [List.length_replicate]
  generalize strm ks ((n + 15) / 16) b = S at *
  refine List.ext_getElem (by simp [List.length_take, hl]; omega) fun j h1 h2 => ?_
  have hj : j < n := by simpa using h1
  have hjS : j < S.length := by omega
  rw [List.getElem_map, List.getElem_range, List.getElem_take]
  have e1 : (List.replicate n (0 : Int)).getD j 0 = 0 := by simp [List.getD_eq_getElem?_getD, hj]
  have e2 : S.getD j 0 = S[j] := by simp [List.getD_eq_getElem?_getD, List.getElem?_eq_getElem hjS]
  rw [e1, e2]
  exact ixor_zero (h _ (List.getElem_mem hjS))
end Go.Proofs.Ytkoackalpcmhaaa.Am
/- Bytes as vectors of bits: a column, mixed, is told by what it is mixed to. Conditions: none. -/
namespace Go.Proofs.Ytkoackalpcmhaaa.Pla
set_option linter.unusedVariables false
set_option linter.unusedSimpArgs false
def xt (v : BitVec 8) : BitVec 8 := (v <<< 1) ^^^ (if v.msb then 27#8 else 0#8)
theorem xt_lin (u v : BitVec 8) : xt (u ^^^ v) = xt u ^^^ xt v := by
  unfold xt
  rw [BitVec.shiftLeft_xor_distrib, BitVec.msb_xor]
  have key : ∀ p q : Bool, (if (p ^^ q) = true then 27#8 else 0#8) = (if p = true then 27#8 else 0#8) ^^^ (if q = true then 27#8 else 0#8) := by decide
  rw [key]
  ac_rfl
theorem xt_zero : xt 0#8 = 0#8 := by decide
/-- A column, mixed: its first byte. -/
def mx (a b c d : BitVec 8) : BitVec 8 := xt a ^^^ xt b ^^^ b ^^^ c ^^^ d
theorem mx_lin (a b c d a' b' c' d' : BitVec 8) : mx (a ^^^ a') (b ^^^ b') (c ^^^ c') (d ^^^ d') = mx a b c d ^^^ mx a' b' c' d' := by
  unfold mx
  rw [xt_lin, xt_lin]
  ac_rfl
theorem xor_zero_eq {u v : BitVec 8} (h : u ^^^ v = 0#8) : u = v := by
  have : u ^^^ v ^^^ v = v := by rw [h, BitVec.zero_xor]
  rwa [BitVec.xor_assoc, BitVec.xor_self, BitVec.xor_zero] at this
theorem mx_ker {a b c d : BitVec 8} (h0 : mx a b c d = 0#8) (h1 : mx b c d a = 0#8) (h2 : mx c d a b = 0#8) (h3 : mx d a b c = 0#8) : a = 0#8 ∧ b = 0#8 ∧ c = 0#8 ∧ d = 0#8 := by
  have hs : a ^^^ b ^^^ c ^^^ d = 0#8 := by
    have e : mx a b c d ^^^ mx b c d a ^^^ mx c d a b ^^^ mx d a b c = (xt a ^^^ xt a) ^^^ (xt b ^^^ xt b) ^^^ (xt c ^^^ xt c) ^^^ (xt d ^^^ xt d) ^^^ ((a ^^^ a) ^^^ (b ^^^ b) ^^^ (c ^^^ c) ^^^ (d ^^^ d)) ^^^ (a ^^^ b ^^^ c ^^^ d) := by
      unfold mx
      ac_rfl
    rw [h0, h1, h2, h3] at e
    simp only [BitVec.xor_self, BitVec.zero_xor] at e
    exact e.symm
  have k0 : a = xt (a ^^^ b) := by
    have e : mx a b c d = (xt (a ^^^ b) ^^^ a) ^^^ (a ^^^ b ^^^ c ^^^ d) := by
      unfold mx
      rw [xt_lin]
      have : a ^^^ a = 0#8 := BitVec.xor_self
      calc xt a ^^^ xt b ^^^ b ^^^ c ^^^ d = xt a ^^^ xt b ^^^ b ^^^ c ^^^ d ^^^ 0#8 := by rw [BitVec.xor_zero]
        _ = xt a ^^^ xt b ^^^ b ^^^ c ^^^ d ^^^ (a ^^^ a) := by rw [this]
        _ = _ := by ac_rfl
    rw [h0, hs, BitVec.xor_zero] at e
    exact (xor_zero_eq e.symm).symm
  have k1 : b = xt (b ^^^ c) := by
    have e : mx b c d a = (xt (b ^^^ c) ^^^ b) ^^^ (a ^^^ b ^^^ c ^^^ d) := by
      unfold mx
      rw [xt_lin]
      have : b ^^^ b = 0#8 := BitVec.xor_self
      calc xt b ^^^ xt c ^^^ c ^^^ d ^^^ a = xt b ^^^ xt c ^^^ c ^^^ d ^^^ a ^^^ 0#8 := by rw [BitVec.xor_zero]
        _ = xt b ^^^ xt c ^^^ c ^^^ d ^^^ a ^^^ (b ^^^ b) := by rw [this]
        _ = _ := by ac_rfl
    rw [h1, hs, BitVec.xor_zero] at e
    exact (xor_zero_eq e.symm).symm
  have k2 : c = xt (c ^^^ d) := by
    have e : mx c d a b = (xt (c ^^^ d) ^^^ c) ^^^ (a ^^^ b ^^^ c ^^^ d) := by
      unfold mx
      rw [xt_lin]
      have : c ^^^ c = 0#8 := BitVec.xor_self
      calc xt c ^^^ xt d ^^^ d ^^^ a ^^^ b = xt c ^^^ xt d ^^^ d ^^^ a ^^^ b ^^^ 0#8 := by rw [BitVec.xor_zero]
        _ = xt c ^^^ xt d ^^^ d ^^^ a ^^^ b ^^^ (c ^^^ c) := by rw [this]
        _ = _ := by ac_rfl
    rw [h2, hs, BitVec.xor_zero] at e
    exact (xor_zero_eq e.symm).symm
  have k3 : d = xt (d ^^^ a) := by
    have e : mx d a b c = (xt (d ^^^ a) ^^^ d) ^^^ (a ^^^ b ^^^ c ^^^ d) := by
      unfold mx
      rw [xt_lin]
      have : d ^^^ d = 0#8 := BitVec.xor_self
      calc xt d ^^^ xt a ^^^ a ^^^ b ^^^ c = xt d ^^^ xt a ^^^ a ^^^ b ^^^ c ^^^ 0#8 := by rw [BitVec.xor_zero]
        _ = xt d ^^^ xt a ^^^ a ^^^ b ^^^ c ^^^ (d ^^^ d) := by rw [this]
        _ = _ := by ac_rfl
    rw [h3, hs, BitVec.xor_zero] at e
    exact (xor_zero_eq e.symm).symm
  have hac : a = c := by
    refine xor_zero_eq ?_
    have e : a ^^^ c = xt (a ^^^ b ^^^ c ^^^ d) := by
      rw [show a ^^^ b ^^^ c ^^^ d = (a ^^^ b) ^^^ (c ^^^ d) by ac_rfl, xt_lin, ← k0, ← k2]
    rw [e, hs, xt_zero]
  have hbd : b = d := by
    refine xor_zero_eq ?_
    have e : b ^^^ d = xt (a ^^^ b ^^^ c ^^^ d) := by
      rw [show a ^^^ b ^^^ c ^^^ d = (b ^^^ c) ^^^ (d ^^^ a) by ac_rfl, xt_lin, ← k1, ← k3]
    rw [e, hs, xt_zero]
  subst hac hbd
  have hab : a = b := by
    refine xor_zero_eq ?_
    have e : a ^^^ b = xt ((a ^^^ b) ^^^ (b ^^^ a)) := by rw [xt_lin, ← k0, ← k1]
    rw [e, show (a ^^^ b) ^^^ (b ^^^ a) = (a ^^^ a) ^^^ (b ^^^ b) by ac_rfl, BitVec.xor_self, BitVec.xor_self, BitVec.xor_self, xt_zero]
  subst hab
  rw [BitVec.xor_self, xt_zero] at k0
  exact ⟨k0, k0, k0, k0⟩
theorem mx_inj {a b c d a' b' c' d' : BitVec 8} (h0 : mx a b c d = mx a' b' c' d') (h1 : mx b c d a = mx b' c' d' a') (h2 : mx c d a b = mx c' d' a' b') (h3 : mx d a b c = mx d' a' b' c') : a = a' ∧ b = b' ∧ c = c' ∧ d = d' := by
  obtain ⟨k0, k1, k2, k3⟩ := mx_ker (a := a ^^^ a') (b := b ^^^ b') (c := c ^^^ c') (d := d ^^^ d') (by rw [mx_lin, h0, BitVec.xor_self]) (by rw [mx_lin, h1, BitVec.xor_self]) (by rw [mx_lin, h2, BitVec.xor_self]) (by rw [mx_lin, h3, BitVec.xor_self])
  exact ⟨xor_zero_eq k0, xor_zero_eq k1, xor_zero_eq k2, xor_zero_eq k3⟩
/-! bytes as integers -/
theorem byte_bv {z : Int} (h : 0 ≤ z) (h' : z < 256) : ((BitVec.ofInt 8 z).toNat : Int) = z := by
  rw [BitVec.toNat_ofInt]
  omega
theorem bv_inj {a b : Int} (ha : 0 ≤ a ∧ a < 256) (hb : 0 ≤ b ∧ b < 256) (h : BitVec.ofInt 8 a = BitVec.ofInt 8 b) : a = b := by
  rw [← byte_bv ha.1 ha.2, ← byte_bv hb.1 hb.2, h]
theorem bv_wrap (v : BitVec 8) : BitVec.ofInt 8 (v.toNat : Int) = v := by
  apply BitVec.eq_of_toNat_eq
  rw [BitVec.toNat_ofInt]
  have := v.isLt
  omega
end Go.Proofs.Ytkoackalpcmhaaa.Pla
/- The cipher: unlike blocks are unlike as it has them. Conditions: none. -/
namespace Go.Proofs.Ytkoackalpcmhaaa.Am
set_option linter.unusedVariables false
set_option linter.unusedSimpArgs false
open Go Go.RowKit
variable [GT]
open Pla (xt mx)

omit [GT] in
def bv (z : Int) : BitVec 8 := BitVec.ofInt 8 z
theorem wrap_bv (v : BitVec 8) : IntKind.u8.wrap (v.toNat : Int) = (v.toNat : Int) := u8_small (by omega) (by have := v.isLt; omega)
theorem bx_bv (a b : Int) : bx a b = ((bv a ^^^ bv b).toNat : Int) := wrap_bv (BitVec.ofInt 8 a ^^^ BitVec.ofInt 8 b)
theorem bv_bx (a b : Int) : bv (bx a b) = bv a ^^^ bv b := by rw [bx_bv]; exact Pla.bv_wrap _
theorem bv_inj {a b : Int} (ha : inR a) (hb : inR b) (h : bv a = bv b) : a = b := Pla.bv_inj ⟨ha.1, by have := ha.1; have := ha.2; omega⟩ ⟨hb.1, by have := hb.1; have := hb.2; omega⟩ h
theorem msb_and : ∀ v : BitVec 8, ((v &&& 128#8).toNat == 0) = !v.msb := by decide +kernel
theorem ba_bv (z : Int) : (ba z 128 != 0) = (bv z).msb := by
  have e : ba z 128 = ((bv z &&& 128#8).toNat : Int) := wrap_bv (BitVec.ofInt 8 z &&& BitVec.ofInt 8 128)
  rw [e]
  have := msb_and (bv z)
  cases hm : (bv z).msb with
  | true =>
    rw [hm] at this
    simp only [Bool.not_true, beq_eq_false_iff_ne] at this
    rw [bne_iff_ne]
    omega
  | false =>
    rw [hm] at this
    simp only [Bool.not_false, beq_iff_eq] at this
    rw [this]
    rfl
theorem bv_bs (z : Int) : bv (bs z 1) = bv z <<< 1 := by
  have e : bs z 1 = (z * 2) % 256 := u8_eq (z * 2 ^ 1)
  rw [e]
  apply BitVec.eq_of_toNat_eq
  unfold bv
  rw [BitVec.toNat_shiftLeft, BitVec.toNat_ofInt, BitVec.toNat_ofInt, Nat.shiftLeft_eq]
  omega
theorem bv_tw (z : Int) : bv (tw z) = xt (bv z) := by
  unfold tw xt
  rw [ba_bv]
  cases (bv z).msb with
  | true => rw [if_pos rfl, if_pos rfl, bv_bx, bv_bs]; rfl
  | false => rw [if_neg (by decide), if_neg (by decide), bv_bs, BitVec.xor_zero]
theorem bv_zero : bv 0 = 0#8 := by decide
theorem gAdd_eq (kf g : Nat → Int) (r i : Nat) : gAdd kf r g i = bx (bx 0 (g i)) (kf (16 * r + i)) := by
  obtain ⟨c, k, hk, rfl⟩ : ∃ c k : Nat, k < 4 ∧ i = 4 * c + k := ⟨i / 4, i % 4, by omega, by omega⟩
  have e1 : (4 * c + k) / 4 = c := by omega
  have e2 : (4 * c + k) % 4 = k := by omega
  unfold gAdd wk
  rw [e1, e2]
  match k, hk with
  | 0, _ => rfl
  | 1, _ => rfl
  | 2, _ => rfl
  | 3, _ => rfl
theorem gAdd_bv (kf g : Nat → Int) (r i : Nat) : bv (gAdd kf r g i) = bv (g i) ^^^ bv (kf (16 * r + i)) := by
  rw [gAdd_eq, bv_bx, bv_bx, bv_zero, BitVec.zero_xor]
omit [GT] in
def EqOn (g h : Nat → Int) : Prop := ∀ i, i < 16 → g i = h i
omit [GT] in
def RIn (g : Nat → Int) : Prop := ∀ i, i < 16 → inR (g i)
theorem gAdd_inj {kf g h : Nat → Int} {r : Nat} (hg : RIn g) (hh : RIn h) (e : EqOn (gAdd kf r g) (gAdd kf r h)) : EqOn g h := fun i hi => by
  refine bv_inj (hg i hi) (hh i hi) ?_
  have := congrArg bv (e i hi)
  rw [gAdd_bv, gAdd_bv] at this
  have h2 := congrArg (fun v => v ^^^ bv (kf (16 * r + i))) this
  simpa only [BitVec.xor_assoc, BitVec.xor_self, BitVec.xor_zero] using h2
theorem sb_inj {a b : Int} (ha : inR a) (hb : inR b) (h : sb a = sb b) : a = b := by
  have key : (List.range 256).all (fun i => sbox.idxOf (sbox.getD i 0) == i) = true := by decide +kernel
  rw [List.all_eq_true] at key
  have h1 := key a.toNat (List.mem_range.2 (by have := ha.2; omega))
  have h2 := key b.toNat (List.mem_range.2 (by have := hb.2; omega))
  rw [beq_iff_eq] at h1 h2
  have h : sbox.getD a.toNat 0 = sbox.getD b.toNat 0 := h
  rw [h, h2] at h1
  have := ha.1
  have := hb.1
  omega
theorem sb_range (x : Int) : inR (sb x) := by
  have key : sbox.all (fun z => decide (0 ≤ z) && Nat.ble z.toNat 255) = true := by decide +kernel
  rw [List.all_eq_true] at key
  refine g2_range (fun z hz => ?_) _
  have := key z hz
  rw [Bool.and_eq_true] at this
  exact ⟨of_decide_eq_true this.1, Nat.le_of_ble_eq_true this.2⟩
theorem gRow_inj {g h : Nat → Int} (hg : RIn g) (hh : RIn h) (e : EqOn (gRow g) (gRow h)) : EqOn g h := fun j hj => by
  have h1 := e (4 * ((j / 4 + 4 - j % 4) % 4) + j % 4) (by omega)
  unfold gRow at h1
  rw [show 4 * (((4 * ((j / 4 + 4 - j % 4) % 4) + j % 4) / 4 + (4 * ((j / 4 + 4 - j % 4) % 4) + j % 4) % 4) % 4) + (4 * ((j / 4 + 4 - j % 4) % 4) + j % 4) % 4 = j by omega] at h1
  exact sb_inj (hg j hj) (hh j hj) h1
theorem mixW_bv (a b c d : Int) : bv (g2 (mixW a b c d) 0) = mx (bv a) (bv b) (bv c) (bv d) ∧ bv (g2 (mixW a b c d) 1) = mx (bv b) (bv c) (bv d) (bv a) ∧ bv (g2 (mixW a b c d) 2) = mx (bv c) (bv d) (bv a) (bv b) ∧ bv (g2 (mixW a b c d) 3) = mx (bv d) (bv a) (bv b) (bv c) := by
  refine ⟨?_, ?_, ?_, ?_⟩
  · show bv (bx (bx (bx (bx (bx 0 (tw a)) (tw b)) b) c) d) = _
    simp only [bv_bx, bv_tw, bv_zero, BitVec.zero_xor, mx]
  · show bv (bx (bx (bx (bx (bx 0 (tw b)) (tw c)) c) d) a) = _
    simp only [bv_bx, bv_tw, bv_zero, BitVec.zero_xor, mx]
  · show bv (bx (bx (bx (bx (bx 0 (tw c)) (tw d)) d) a) b) = _
    simp only [bv_bx, bv_tw, bv_zero, BitVec.zero_xor, mx]
  · show bv (bx (bx (bx (bx (bx 0 (tw d)) (tw a)) a) b) c) = _
    simp only [bv_bx, bv_tw, bv_zero, BitVec.zero_xor, mx]
theorem gMix_at (g : Nat → Int) (c k : Nat) (hk : k < 4) : gMix g (4 * c + k) = g2 (mixW (g (4 * c)) (g (4 * c + 1)) (g (4 * c + 2)) (g (4 * c + 3))) k := by
  unfold gMix
  rw [show (4 * c + k) / 4 = c by omega, show (4 * c + k) % 4 = k by omega]
theorem gMix_inj {g h : Nat → Int} (hg : RIn g) (hh : RIn h) (e : EqOn (gMix g) (gMix h)) : EqOn g h := fun i hi => by
  obtain ⟨c, k, hk, hc, rfl⟩ : ∃ c k : Nat, k < 4 ∧ c < 4 ∧ i = 4 * c + k := ⟨i / 4, i % 4, by omega, by omega, by omega⟩
  obtain ⟨a0, a1, a2, a3⟩ := mixW_bv (g (4 * c)) (g (4 * c + 1)) (g (4 * c + 2)) (g (4 * c + 3))
  obtain ⟨b0, b1, b2, b3⟩ := mixW_bv (h (4 * c)) (h (4 * c + 1)) (h (4 * c + 2)) (h (4 * c + 3))
  have e' : ∀ j, j < 4 → bv (g2 (mixW (g (4 * c)) (g (4 * c + 1)) (g (4 * c + 2)) (g (4 * c + 3))) j) = bv (g2 (mixW (h (4 * c)) (h (4 * c + 1)) (h (4 * c + 2)) (h (4 * c + 3))) j) := fun j hj => by
    rw [← gMix_at g c j hj, ← gMix_at h c j hj, e (4 * c + j) (by omega)]
  obtain ⟨k0, k1, k2, k3⟩ := Pla.mx_inj (a0.symm.trans ((e' 0 (by omega)).trans b0)) (a1.symm.trans ((e' 1 (by omega)).trans b1)) (a2.symm.trans ((e' 2 (by omega)).trans b2)) (a3.symm.trans ((e' 3 (by omega)).trans b3))
  refine bv_inj (hg _ hi) (hh _ hi) ?_
  match k, hk with
  | 0, _ => exact k0
  | 1, _ => exact k1
  | 2, _ => exact k2
  | 3, _ => exact k3
theorem gRow_in (g : Nat → Int) : RIn (gRow g) := fun i _ => sb_range _
theorem rnds_in {kf : Nat → Int} : ∀ (n r : Nat) {g : Nat → Int}, RIn g → RIn (rnds kf r n g)
  | 0, _, _, h => h
  | n + 1, r, _, _ => rnds_in n (r + 1) fun i _ => gAdd_range _ _ _ i
theorem gMix_in (g : Nat → Int) : RIn (gMix g) := fun i _ => by
  refine g2_range (fun x hx => ?_) _
  simp only [mixW, wx, List.mem_cons, List.not_mem_nil, or_false] at hx
  rcases hx with rfl | rfl | rfl | rfl <;> exact bx_range _ _
theorem rnds_inj {kf : Nat → Int} : ∀ (n r : Nat) {g h : Nat → Int}, RIn g → RIn h → EqOn (rnds kf r n g) (rnds kf r n h) → EqOn g h
  | 0, _, _, _, _, _, e => e
  | n + 1, r, g, h, hg, hh, e => gRow_inj hg hh (gMix_inj (gRow_in g) (gRow_in h) (gAdd_inj (gMix_in _) (gMix_in _) (rnds_inj n (r + 1) (fun i _ => gAdd_range _ _ _ i) (fun i _ => gAdd_range _ _ _ i) e)))
theorem enc_inj {ks a b : List Int} (ha : a.length = 16) (hb : b.length = 16) (ra : ∀ j, inR (g2 a j)) (rb : ∀ j, inR (g2 b j)) (e : encL ks a = encL ks b) : a = b := by
  have e1 : EqOn (encG (g2 ks) (g2 a)) (encG (g2 ks) (g2 b)) := fun i hi => by
    have := congrArg (fun l => g2 l i) e
    unfold encL at this
    simp only [g2_keyL 16 _ i hi] at this
    exact this
  have hr : ∀ l, RIn (gAdd (g2 ks) 0 (g2 l)) := fun l i _ => gAdd_range _ _ _ i
  have e2 := gAdd_inj (fun i _ => ra i) (fun i _ => rb i) (rnds_inj 13 1 (hr a) (hr b) (gRow_inj (rnds_in 13 1 (hr a)) (rnds_in 13 1 (hr b)) (gAdd_inj (gRow_in _) (gRow_in _) e1)))
  rw [← keyL_g2 ha, ← keyL_g2 hb]
  exact keyL_congr e2
theorem enc_beq {ks a b : List Int} (ha : a.length = 16) (hb : b.length = 16) (ra : ∀ j, inR (g2 a j)) (rb : ∀ j, inR (g2 b j)) : ((encL ks a == encL ks b) == (a == b)) = true := by
  by_cases h : a = b
  · subst h; simp
  · have h2 : encL ks a ≠ encL ks b := fun e => h (enc_inj ha hb ra rb e)
    rw [beq_eq_false_iff_ne.2 h2, beq_eq_false_iff_ne.2 h]
    rfl
theorem lawOthers_run (kf af bf : Nat → Int) : wholeV tyT mO (atH 4 17 (isB true) noH) [] 1000 Try.f5 [.av (.one (.arr .u8 (keyL 32 kf))), .av (.one (.arr .u8 (keyL 16 af))), .av (.one (.arr .u8 (keyL 16 bf)))] = some (ofV (.bool true), [32 ≤ 32 ∧ ∀ j, j < 32 → inR (g2 (keyL 32 kf) (0 + j)), sbox = sbox, sbox = sbox, isA ((encL (keyL 240 (schedW (keyL 32 kf) 0)) (keyL 16 af) == encL (keyL 240 (schedW (keyL 32 kf) 0)) (keyL 16 bf)) == (keyL 16 af == keyL 16 bf)) true]) := by
  kernel_rfl
theorem lawOthers_fact (ks a b : List Int) (lk : ks.length = 32) (la : a.length = 16) (lb : b.length = 16) (wk : ∀ z ∈ ks, (Lit.int .u8 z).wf = true) (wa : ∀ z ∈ a, (Lit.int .u8 z).wf = true) (wb : ∀ z ∈ b, (Lit.int .u8 z).wf = true) (w : World) (hgw : GWok w.heap.size [] w) : Calls Try.prog 5 #[.agg (ks.map (Value.int .u8)).toArray, .agg (a.map (Value.int .u8)).toArray, .agg (b.map (Value.int .u8)).toArray] w fun e w' => e = .returned (.bool true) ∧ Below w.heap.size w w' := by
  have := am_val tyT_ok mO_ok mixed_ Try.func5 (avs := [.av (.one (.arr .u8 (keyL 32 (g2 ks)))), .av (.one (.arr .u8 (keyL 16 (g2 a)))), .av (.one (.arr .u8 (keyL 16 (g2 b))))]) (by kernel_rfl) (lawOthers_run (g2 ks) (g2 a) (g2 b)) ⟨⟨Nat.le_refl _, fun j _ => by rw [keyL_g2 lk]; exact wf_g2 wk _⟩, rfl, rfl, fun ρ => by
    rw [keyL_g2 la, keyL_g2 lb, enc_beq la lb (wf_g2 wa) (wf_g2 wb)], trivial⟩ (by kernel_rfl) (by kernel_rfl) (fun _ => ⟨none, 0⟩) w hgw
  rw [keyL_g2 lk, keyL_g2 la, keyL_g2 lb] at this
  exact this
end Go.Proofs.Ytkoackalpcmhaaa.Am
/- Law 05's Parts: the law. Conditions: none. -/
namespace Go.Proofs.Ytkoackalpcmhaaa.Am
set_option linter.unusedVariables false
set_option linter.unusedSimpArgs false
open Go Go.RowKit
set_option linter.unusedSectionVars false
variable [GT]
theorem encL_in (ks b : List Int) : ∀ z ∈ encL ks b, inR z := fun z hz => by
  unfold encL keyL at hz
  obtain ⟨i, _, rfl⟩ := List.mem_map.1 hz
  unfold encG
  rw [gAdd_eq]
  exact bx_range _ _
theorem strm_in (ks : List Int) : ∀ (n : Nat) (b : List Int), ∀ z ∈ strm ks n b, inR z
  | 0, _, z, h => by cases h
  | n + 1, b, z, h => by
    unfold strm at h
    rcases List.mem_append.1 h with h | h
    · exact encL_in _ _ z h
    · exact strm_in ks n _ z h
theorem lp_ok (kf bf : Nat → Int) (b : List Int) (cap : Nat) (h : b.length ≤ 150) (hc : b.length ≤ cap) (hk : ∀ j, inR (kf j)) : From Try.prog fLP (lpA kf bf b.length cap) (lpP b) 1 [] [.fin] (lpE b) := by
  have S0 : (lsS kf bf ((b.length + 15) / 16)).length = 16 * ((b.length + 15) / 16) := strm_len _ _ _
  have Z0 : (lpZ kf bf (List.replicate b.length 0)).length = b.length := by unfold lpZ tuR; rw [turnL_len, List.length_replicate]
  have Z1 : lpZ kf bf (List.replicate b.length 0) = (lsS kf bf ((b.length + 15) / 16)).take b.length := lp_zeros _ _ _ (strm_in _ _ _)
  have hrun := From.run tyT_ok lpO_ok mixed_ (lp_run kf bf b cap) ?_
  · refine hrun.trans (Reaches.rounds (b.length + 1) (lp_rounds b (lsS kf bf ((b.length + 15) / 16)) cap (by omega) (by omega) b.length 0 (by omega)))
  · have kl : (lsK kf).length = 240 := keyL_len _ _
    refine ⟨tB_ngt.2 (by omega), ⟨Nat.le_refl _, fun j hj => ?_⟩, ⟨rfl, by omega, by omega⟩, ⟨rfl, hc⟩, ⟨rfl, kl, keyL_len _ _, by omega⟩, tB_nne.2 rfl, tB_nne.2 rfl, ⟨by omega, by unfold okSize; omega⟩, ⟨by omega, by unfold okSize; omega⟩, by omega, rfl, ⟨by rw [List.length_replicate], Nat.le_refl _⟩, ⟨rfl, kl, keyL_len _ _, by rw [List.length_replicate]; omega⟩, ?_, ?_, ?_, trivial⟩
    · rw [Nat.zero_add, g2_keyL 32 _ j hj]
      exact hk j
    · rw [widths_o, Z0, List.length_replicate]; omega
    · rw [widths_o, S0]; omega
    · rw [Z1, List.length_replicate, List.take_take, Nat.min_self, tB_iff, beq_self_eq_true]; rfl
theorem lawParts_fact (key f b : List Int) (a : Option Addr) (cap : Nat) (lk : key.length = 32) (lf : f.length = 16) (wk : ∀ z ∈ key, (Lit.int .u8 z).wf = true) {W : World} (hgw : GWok W.heap.size [] W) (hr : RowAt W ⟨a, cap⟩ .u8 b) : Calls Try.prog 9 #[.agg (key.map (Value.int .u8)).toArray, .agg (f.map (Value.int .u8)).toArray, .slice a b.length cap] W fun e w' => e = .returned (.bool true) ∧ Below W.heap.size W w' := by
  have hG := hr_rows [(⟨a, cap⟩, .u8, b)] (fun x hx => by simp at hx; subst hx; exact hr) hgw
  have hcap : b.length ≤ cap := hr.1
  have hR : From Try.prog fLP (lpA (g2 key) (g2 f) b.length cap) (lpP b) 1 [] [.fin] (lpE b) := by
    by_cases h : b.length ≤ 150
    · exact lp_ok _ _ b cap h hcap (wf_g2 wk)
    · exact From.run tyT_ok lpO_ok mixed_ (lp_long _ _ b b.length cap) ⟨tB_gt.2 (by omega), trivial⟩
  have := law_reach Try.func9 hR (.inr rfl) (by kernel_rfl) (by kernel_rfl) (by kernel_rfl) hG
  simp only [lpA, List.map_cons, List.map_nil, conc_s0, keyL_g2 lk, keyL_g2 lf] at this
  exact this
end Go.Proofs.Ytkoackalpcmhaaa.Am
/- No variable of the package is known: none is read. Conditions: none. -/
namespace Go.Proofs.Ytkoackalpcmhaaa.Am
set_option linter.unusedVariables false
set_option linter.unusedSimpArgs false
open Go
instance gt0 : GT := ⟨[]⟩
theorem gw0 {N : Nat} {M : List Nat} {w : World} : GWok N M w := fun x h => by cases h
end Go.Proofs.Ytkoackalpcmhaaa.Am
