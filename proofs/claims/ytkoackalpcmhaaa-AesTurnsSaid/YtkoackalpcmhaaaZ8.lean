/- Opening slices of integers at a law's call, as the machine takes them; and a law's call. Conditions: none. -/
import Derived.Test.YtkoackalpcmhaaaZ7
import Derived.Test.YtkoackalpcmhaaaZ6
import Derived.ChangeSlices
import Derived.KernelRfl
set_option linter.unusedSectionVars false
namespace Go.Proofs.Ytkoackalpcmhaaa
set_option linter.unusedVariables false
set_option linter.unusedSimpArgs false
open Go Go.ChangeShapes Go.WideShapes Go.ChangeAt Go.RowKit

theorem has_lt {P : Program} {w : World} {r : Reach} {base : Nat} {a : Addr} {e : TypeId} {n : Nat} (h : w.has P r base a e n) : a.block < w.heap.size := by
  obtain ⟨_, _, row, cells, hs, _⟩ := h
  unfold World.shape? at hs
  split at hs
  · rename_i hb
    exact (Array.getElem?_eq_some_iff.1 hb).1
  all_goals first | cases hs | (rename_i hb; exact (Array.getElem?_eq_some_iff.1 hb).1)
/-- A slice of integers that comes in. -/
theorem open_sl {H : Type} {enc : TypeId × Value → H} {W : World} {base : Nat} {b0 : Nat} {spare : Nat → Bool} {held : Bool} {v : Value} {d : DataW H} {ps : List MemPlace} {t e : TypeId} {k : IntKind}
    (ht : Try.prog.underlying t = some (.slice e)) (he : Try.prog.underlying e = some (.int k)) (hce : Try.prog.cellsOf e = 1)
    (hval : Value.okWide Try.prog W .any b0 t v) (h : DataW.Trod enc Try.prog W base spare held t v d ps) :
    ∃ a cap, ∃ zs : List Int, v = .slice a zs.length cap ∧ Am.RowAt W ⟨a, cap⟩ k zs ∧ ∀ z ∈ zs, (Lit.int k z).wf = true := by
  obtain ⟨a, len, cap, rfl⟩ := okWide_slice ht hval
  have hlt : ∀ x, a = some x → x.block < W.heap.size := fun x hx => by
    subst hx
    simp only [Value.okWide, ht, Cell.okWide, Cell.ok] at hval
    exact has_lt hval.2.2
  obtain ⟨fuel, hf⟩ := h
  rcases open_ints ht he hce hf with ⟨hcs, _⟩ | ⟨x, l, c, zs, hcs, _, hl, hm, hz, _, hcell, hwz⟩
  · simp [Value.cells] at hcs
    obtain ⟨rfl, rfl, rfl⟩ := hcs
    exact ⟨none, 0, [], rfl, ⟨Nat.le_refl _, .inl rfl, fun x hx => by cases hx⟩, by simp⟩
  · simp [Value.cells] at hcs
    obtain ⟨rfl, rfl, rfl⟩ := hcs
    have hzl : len ≤ zs.length := by rw [hz]; split <;> omega
    have hlen : (zs.take len).length = len := by rw [List.length_take]; omega
    refine ⟨some x, cap, zs.take len, by rw [hlen], ⟨by rw [hlen]; exact hl, .inr ⟨x, rfl, fun j u hj => ?_⟩, hlt⟩, fun z hz' => hwz z (List.mem_of_mem_take hz')⟩
    have hjl : j < len := by
      have := (List.getElem?_eq_some_iff.1 hj).1
      rw [List.length_map, hlen] at this; exact this
    rw [List.getElem?_map, List.getElem?_take, if_pos hjl, List.getElem?_eq_getElem (by omega)] at hj
    simp only [Option.map_some, Option.some.injEq] at hj
    subst hj
    have := hcell j (by omega)
    simpa [List.getD_eq_getElem?_getD, List.getElem?_eq_getElem (show j < zs.length by omega)] using this
end Go.Proofs.Ytkoackalpcmhaaa
namespace Go.Proofs.Ytkoackalpcmhaaa.Am
open Go Go.RowKit
variable [GT]
omit [GT] in
/-- Rows that come in, as blocks to be read. -/
def rowsH : List (Loc × IntKind × List Int) → Nat → List (Nat × Blk)
  | [], _ => []
  | (_, k, zs) :: l, n => (n, ⟨2, 0, [.arr k zs]⟩) :: rowsH l (n + 1)
omit [GT] in
theorem rowsH_spec : ∀ (l : List (Loc × IntKind × List Int)) (n i : Nat) (b : Blk), look (rowsH l n) i = some b → n ≤ i ∧ i < n + l.length ∧ ∃ x, l[i - n]? = some x ∧ b = ⟨2, 0, [.arr x.2.1 x.2.2]⟩
  | [], n, i, b, h => by cases h
  | (g, k, zs) :: l, n, i, b, h => by
    simp only [rowsH, look_cons] at h
    by_cases hi : n = i
    · subst hi
      rw [if_pos rfl] at h
      injection h with h
      subst h
      exact ⟨Nat.le_refl _, by simp, (g, k, zs), by simp, rfl⟩
    · rw [if_neg hi] at h
      obtain ⟨h1, h2, x, hx, hb⟩ := rowsH_spec l (n + 1) i b h
      refine ⟨by omega, by simp only [List.length_cons]; omega, x, ?_, hb⟩
      rw [show i - n = (i - (n + 1)) + 1 by omega, List.getElem?_cons_succ]
      exact hx
theorem hr_rows {w : World} (l : List (Loc × IntKind × List Int)) (h : ∀ x ∈ l, RowAt w x.1 x.2.1 x.2.2) (hgw : GWok w.heap.size [] w) : HR (fun i => (l.map (·.1)).getD i ⟨none, 0⟩) (· < l.length) w.heap.size [] (look (rowsH l 0)) w := by
  have hall : ∀ i b, look (rowsH l 0) i = some b → i < l.length ∧ ∃ k zs, b = ⟨2, 0, [.arr k zs]⟩ ∧ RowAt w ((l.map (·.1)).getD i ⟨none, 0⟩) k zs := fun i b hb => by
    obtain ⟨_, h2, x, hx, rfl⟩ := rowsH_spec _ _ _ _ hb
    rw [Nat.sub_zero] at hx
    refine ⟨by omega, _, _, rfl, ?_⟩
    have e : (l.map (·.1)).getD i ⟨none, 0⟩ = x.1 := by simp [List.getD_eq_getElem?_getD, hx]
    rw [e]
    exact h x (List.mem_of_getElem? hx)
  refine ⟨Nat.le_refl _, fun i b hb => ?_, fun i b x hb hx => ?_, fun i b x hb hk hx => ?_, fun i j bi bj x y hi hj hij hk hx hy => ?_, hgw⟩
  · obtain ⟨h2, k, zs, rfl, h3, h4, _⟩ := hall i b hb
    refine ⟨h2, fun s hs => (by simp at hs; subst hs; trivial), ?_⟩
    show (segsVals _ _).length ≤ _ ∧ _
    rw [segsVals_one]
    refine ⟨by simpa [Seg.vals] using h3, ?_⟩
    rcases h4 with rfl | h4
    · exact .inl rfl
    · exact .inr h4
  · obtain ⟨_, k, zs, rfl, _, _, h5⟩ := hall i b hb
    exact h5 x hx
  · obtain ⟨_, k, zs, rfl, _⟩ := hall i b hb
    simp at hk
  · obtain ⟨_, k, zs, rfl, _⟩ := hall i bi hi
    simp at hk
/-- A law's run that ends in true. -/
theorem law_reach {f : FuncId} {fn : Func} (hf : Try.prog.funcs[f]? = some fn) {avs : List SV} {hp : List (Nat × Blk)} {k : Nat} {todo : List AI} {st : St} (hR : From Try.prog fn avs hp k [] todo st) (hfin : todo = [] ∨ todo = [.fin]) (hv : resVal tyT st fn.results.toList = some (ofV (.bool true))) (hlen : Nat.ble avs.length fn.ntmps = true) (hin : avs.all (svB fun i => Nat.blt i k) = true) {ρc : Nat → Loc} {w : World} (hG : HR ρc (· < k) w.heap.size [] (look hp) w) :
    Calls Try.prog f (avs.map (SV.conc ρc)).toArray w fun e w' => e = .returned (.bool true) ∧ Below w.heap.size w w' := by
  obtain ⟨c, hc, hRe⟩ := hR
  exact reach_val tyT_ok hf hc hfin hRe hv (by rfl) hlen (fun s hs => svB_in (f := fun i => Nat.blt i k) (fun i h => Nat.le_of_ble_eq_true h) (List.all_eq_true.1 hin s hs)) hG (fun _ => ⟨none, 0⟩)
omit [GT] in
theorem conc_s0 {ρ : Nat → Loc} {i n cap : Nat} : SV.conc ρ (.av (.one (.s i 0 n cap))) = .slice (ρ i).a n cap := by
  simp only [SV.conc, AV.conc, Seg.conc]
  cases (ρ i).a <;> simp [Addr.add]
end Go.Proofs.Ytkoackalpcmhaaa.Am
/- Law 05's Streams: the law. Conditions: none. -/
namespace Go.Proofs.Ytkoackalpcmhaaa.Am
set_option linter.unusedVariables false
set_option linter.unusedSimpArgs false
open Go Go.RowKit
set_option linter.unusedSectionVars false
variable [GT]
theorem strm_take (ks : List Int) : ∀ (m n : Nat) (b : List Int) (a : Nat), a ≤ 16 * m → m ≤ n → (strm ks n b).take a = (strm ks m b).take a
  | 0, n, b, a, h, _ => by
    have : a = 0 := by omega
    subst this
    rw [List.take_zero, List.take_zero]
  | m + 1, 0, b, a, _, h => by omega
  | m + 1, n + 1, b, a, h, h' => by
    unfold strm
    rw [List.take_append, List.take_append, encL_len, strm_take ks m n (nextL b) (a - 16) (by omega) (by omega)]
theorem strm_drop (ks : List Int) (n : Nat) (b : List Int) : (strm ks (n + 1) b).drop 16 = strm ks n (nextL b) := by
  have : strm ks (n + 1) b = encL ks b ++ strm ks n (nextL b) := rfl
  rw [this]
  have h := encL_len ks b
  rw [← h, List.drop_left]
theorem strOf_size (l : List Int) : (strOf l).size = l.length := by
  show (l.map _).toArray.size = _
  simp
theorem strOf_extract (l : List Int) (a : Nat) : (strOf l).extract 0 a = strOf (l.take a) := by
  apply ByteArray.ext
  rw [ByteArray.data_extract]
  apply Array.toList_inj.1
  simp [strOf]
theorem ls_ok (kf bf : Nat → Int) (p q : Int) (a c : Nat) (ha : a < 80) (hc : c < 80) (hp : Int.tmod p 80 = a) (hq : Int.tmod q 80 = c) (hk : ∀ j, inR (kf j)) : AllP (lsP kf bf p q a c) := by
  have n1 : (a + c + 16 + 15) / 16 = (a + c + 15) / 16 + 1 := by omega
  have S1 : (lsS kf bf ((a + c + 16 + 15) / 16)).length = 16 * ((a + c + 15) / 16 + 1) := by rw [n1]; exact strm_len _ _ _
  have S0 : (lsS kf bf ((a + 15) / 16)).length = 16 * ((a + 15) / 16) := strm_len _ _ _
  have X0 : (lsX kf bf ((a + 15) / 16)).length = 16 * ((a + 15) / 16) := strm_len _ _ _
  have e1 : (lsS kf bf ((a + c + 16 + 15) / 16)).take a = (lsS kf bf ((a + 15) / 16)).take a := strm_take _ _ _ _ _ (by omega) (by omega)
  have hs : slOff 0 16 (a + c + 16) (a + c + 16) 1 = if a + c + 16 = 16 then 0 else 16 := by
    rw [slOff_eq _ _ _ _ _ (by omega)]
  have hQ : lsQ kf bf a c = strOf ((lsX kf bf ((a + c + 15) / 16)).take (a + c)) := by
    unfold lsQ
    rw [hs, List.append_nil]
    by_cases h0 : a + c + 16 = 16
    · have z : a + c = 0 := by omega
      rw [show a + c + 16 - 16 = 0 by omega, z, List.take_zero, List.take_zero]
    · rw [if_neg h0, n1, show a + c + 16 - 16 = a + c by omega]
      have : (lsS kf bf ((a + c + 15) / 16 + 1)).drop 16 = lsX kf bf ((a + c + 15) / 16) := strm_drop _ _ _
      rw [this]
  have X1 : (lsX kf bf ((a + c + 15) / 16)).length = 16 * ((a + c + 15) / 16) := strm_len _ _ _
  have e2 : (lsX kf bf ((a + c + 15) / 16)).take a = (lsX kf bf ((a + 15) / 16)).take a := strm_take _ _ _ _ _ (by omega) (by omega)
  have hQs : (lsQ kf bf a c).size = a + c := by
    rw [hQ, strOf_size, List.length_take, X1]
    omega
  have hQe : (lsQ kf bf a c).extract 0 a = strOf ((lsX kf bf ((a + 15) / 16)).take a ++ []) := by
    rw [hQ, strOf_extract, List.take_take, Nat.min_eq_left (by omega), e2, List.append_nil]
  have wp : tI .i64 (IntKind.i64.wrap (Int.tmod p 80)) (a : Nat) := by rw [hp, tI_64]; omega
  have wq : tI .i64 (IntKind.i64.wrap (Int.tmod q 80)) (c : Nat) := by rw [hq, tI_64]; omega
  have w1 : tI .i64 (IntKind.i64.wrap (((a + c + 16 : Nat) : Int) - 16)) ((a + c : Nat) : Int) := by
    rw [show ((a + c + 16 : Nat) : Int) - 16 = ((a + c : Nat) : Int) by omega, tI_64]; omega
  have w2 : tI .i64 (if ((a + c : Nat) : Int) < (a : Int) then ((a + c : Nat) : Int) else (a : Int)) (a : Int) := by
    rw [if_neg (by omega), tI_iff]
  refine ⟨⟨Nat.le_refl _, fun j hj => ?_⟩, wp, ⟨rfl, by omega, by omega⟩, wq, ?_, ?_, ⟨rfl, by omega, by omega⟩, ⟨rfl, by omega, by omega⟩, tB_eq.2 rfl, Nat.le_refl _, ⟨by omega, by omega⟩, by rw [widths_o, S1]; omega, by rw [widths_o, S0]; omega, ?_, w1, w2, Nat.le_refl _, ⟨by omega, Nat.le_refl _⟩, by rw [widths_o, X0]; omega, Nat.le_refl _, ⟨by omega, by omega⟩, ?_, w1, w2, ⟨by omega, by rw [hQs]; omega⟩, ?_, trivial⟩
  · rw [Nat.zero_add, g2_keyL 32 _ j hj]
    exact hk j
  · rw [show (a : Int) + (c : Int) = ((a + c : Nat) : Int) by omega, tI_64]; omega
  · rw [show ((a + c : Nat) : Int) + 16 = ((a + c + 16 : Nat) : Int) by omega, tI_64]; omega
  · rw [e1, tB_iff, beq_self_eq_true]
  · rw [hs, widths_o, S1]
    split <;> omega
  · rw [hQe, tB_iff, beq_self_eq_true]
theorem lawStreams_fact (key b s : List Int) (lk : key.length = 32) (lb : b.length = 16) (ls : s.length = 2) (wk : ∀ z ∈ key, (Lit.int .u8 z).wf = true) (ws : ∀ z ∈ s, (Lit.int .u8 z).wf = true) {W : World} (hgw : GWok W.heap.size [] W) : Calls Try.prog 7 #[.agg (key.map (Value.int .u8)).toArray, .agg (b.map (Value.int .u8)).toArray, .agg (s.map (Value.int .u8)).toArray] W fun e w' => e = .returned (.bool true) ∧ Below W.heap.size W w' := by
  obtain ⟨p, q, rfl⟩ : ∃ p q, s = [p, q] := by
    match s, ls with
    | [p, q], _ => exact ⟨p, q, rfl⟩
  have rp := wf_inR (ws p (by simp))
  have rq := wf_inR (ws q (by simp))
  obtain ⟨p0, p1⟩ := rp
  obtain ⟨q0, q1⟩ := rq
  have hp : Int.tmod p 80 = ((p.toNat % 80 : Nat) : Int) := by rw [Int.tmod_eq_emod_of_nonneg p0]; omega
  have hq : Int.tmod q 80 = ((q.toNat % 80 : Nat) : Int) := by rw [Int.tmod_eq_emod_of_nonneg q0]; omega
  have hR := From.run tyT_ok lsO_ok mixed_ (ls_run (g2 key) (g2 b) p q (p.toNat % 80) (q.toNat % 80)) (ls_ok (g2 key) (g2 b) p q _ _ (Nat.mod_lt _ (by decide)) (Nat.mod_lt _ (by decide)) hp hq (wf_g2 wk))
  have := law_reach Try.func7 hR (.inr rfl) (by kernel_rfl) (by kernel_rfl) (by kernel_rfl) (hr_rows [] (fun x hx => by cases hx) hgw)
  simp only [lsA, List.map_cons, List.map_nil, keyL_g2 lk, keyL_g2 lb] at this
  exact this
end Go.Proofs.Ytkoackalpcmhaaa.Am
/- Law 05's Parts. Conditions: none. -/
namespace Go.Proofs.Ytkoackalpcmhaaa.Am
set_option linter.unusedVariables false
set_option linter.unusedSimpArgs false
open Go Go.RowKit
set_option linter.unusedSectionVars false
variable [GT]
noncomputable abbrev fLP : Func := Try.f9
noncomputable def lpO : List (Nat × Ent) := [(10, eTrue), (11, eNew), (18, eStream), (19, entB [.rd [.pi .u8, .ag .u8 240], .ag .u8, .rs [.sw .u8]] tuF)]
theorem lpO_ok : OOK Try.prog lpO := ook_of (l := [(10, eTrue), (11, eNew), (18, eStream), (19, entB [.rd [.pi .u8, .ag .u8 240], .ag .u8, .rs [.sw .u8]] tuF)]) ⟨awake_ent, new_ent, stream_ent, Turn_ent _, trivial⟩
def lpA (kf bf : Nat → Int) (n cap : Nat) : List SV := [.av (.one (.arr .u8 (keyL 32 kf))), .av (.one (.arr .u8 (keyL 16 bf))), .av (.one (.s 0 0 n cap))]
def lpP (b : List Int) : List (Nat × Blk) := [(0, ⟨2, 0, [.arr .u8 b]⟩)]
def lpS (b s x : List Int) (n cap i : Nat) : St := { tm := tmL 86 [(2, .av (.one (.s 0 0 n cap))), (9, .av (.one (.s 1 0 n n))), (10, .av (.one (.r 2 0 n 0))), (67, ofV (.int .i64 (n : Nat))), (68, ofV (.int .i64 (i : Nat)))], hp := [(0, ⟨2, 0, [.arr .u8 b]⟩), (1, ⟨1, 5, [.arr .u8 s]⟩), (2, ⟨1, 5, [.arr .u8 x]⟩)], nx := 3, gl := [] }
def lpE (b : List Int) : St := { tm := tmL 86 [(6, ofV (.bool true))], hp := [(0, ⟨2, 0, [.arr .u8 b]⟩)], nx := 1, gl := [] }
def lpH : Nat → Nat → Hint := atH 1 6 (isB false) (atH 7 5 (isB false) (atH 7 12 (isB false) (atH 7 17 symH (atH 7 20 symH (atH 7 22 symH (atH 7 24 (isB false) noH))))))
def lpZ (kf bf : Nat → Int) (b : List Int) : List Int := tuR (lsK kf) (keyL 16 bf) b
theorem lp_long (kf bf : Nat → Int) (b : List Int) (n cap : Nat) : runF tyT lpO (atH 1 6 (isB true) noH) [] 1 [] [6] fLP (lpA kf bf n cap) (lpP b) 1 [] = some ([.fin], lpE b, [tB (decide ((n : Int) > 150)) true]) := by kernel_rfl
theorem lp_run (kf bf : Nat → Int) (b : List Int) (cap : Nat) : runF tyT lpO lpH [] 1 [21, 41] [2, 9, 10, 67, 68] fLP (lpA kf bf b.length cap) (lpP b) 1 [] = some (toAt fLP 10 [], lpS b (lsS kf bf ((b.length + 15) / 16)) (lpZ kf bf b) b.length cap 0,
  [tB (decide ((b.length : Int) > 150)) false, 32 ≤ 32 ∧ ∀ j, j < 32 → inR (g2 (keyL 32 kf) (0 + j)), sbox = sbox ∧ 0 ≤ (b.length : Int) ∧ (b.length : Int) ≤ 1000000, b.length = b.length ∧ b.length ≤ cap, sbox = sbox ∧ (lsK kf).length = 240 ∧ (keyL 16 bf).length = 16 ∧ b.length ≤ 1000000,
   tB ((b.length : Int) != (b.length : Int)) false, tB ((b.length : Int) != (b.length : Int)) false, 0 ≤ (b.length : Int) ∧ b.length ≤ okSize, 0 ≤ (b.length : Int) ∧ b.length ≤ okSize, b.length * 2 ≤ 140737488355328, b.length = b.length,
   b.length = (List.replicate b.length (0 : Int)).length ∧ b.length ≤ b.length, sbox = sbox ∧ (lsK kf).length = 240 ∧ (keyL 16 bf).length = 16 ∧ (List.replicate b.length (0 : Int)).length ≤ 1000000,
   0 + (List.replicate b.length (0 : Int)).length ≤ widths [Seg.arr .u8 (lpZ kf bf (List.replicate b.length 0))], 0 + b.length ≤ widths [Seg.arr .u8 (lsS kf bf ((b.length + 15) / 16))],
   tB (!((strOf ((lpZ kf bf (List.replicate b.length 0)).take (List.replicate b.length (0 : Int)).length ++ [])).toList == (strOf ((lsS kf bf ((b.length + 15) / 16)).take b.length ++ [])).toList)) false]) := by kernel_rfl
theorem lp_go (b s x : List Int) (n cap i k : Nat) : runN tyT lpO (atH 10 0 (isB true) (atH 12 2 symH (atH 12 3 symH (atH 12 6 symH (atH 12 7 symH (atH 12 10 symH (atH 12 11 symH (atH 12 13 (isB false) (atH 14 0 (isI .i64 ((i + 1 : Nat) : Int)) noH))))))))) [] 2000 1 [1, 2] [2, 9, 10, 67, 68] (inAt fLP 10 [] k) (lpS b s x n cap i) = some (hdAt fLP 10 [] k, lpS b s x n cap (i + 1),
  [tB (decide ((i : Int) < (n : Int))) true, 0 + n ≤ widths [Seg.arr .u8 x], 0 ≤ (i : Int) ∧ i ≤ n - 1, 1 ≤ n, i < x.length, 0 + n ≤ widths [Seg.arr .u8 b], 0 ≤ (i : Int) ∧ i ≤ n - 1, 1 ≤ n, i < b.length, 0 + n ≤ widths [Seg.arr .u8 s], 0 ≤ (i : Int) ∧ i ≤ n - 1, 1 ≤ n, i < s.length, tB (x.getD i 0 != ixor .u8 (b.getD i 0) (s.getD i 0)) false, tI .i64 (IntKind.wrap .i64 ((i : Int) + 1)) ((i + 1 : Nat) : Int)]) := by kernel_rfl
theorem lp_end (b s x : List Int) (n cap i k : Nat) : runN tyT lpO (atH 10 0 (isB false) noH) [] 2000 1 [] [6] (inAt fLP 10 [] k) (lpS b s x n cap i) = some ([.fin], lpE b, [tB (decide ((i : Int) < (n : Int))) false]) := by kernel_rfl
theorem turnL_get (o st : List Int) (j : Nat) (h : j < o.length) : (turnL o st).getD j 0 = ixor .u8 (o.getD j 0) (st.getD j 0) := by
  unfold turnL
  rw [List.getD_eq_getElem?_getD, List.getElem?_map, List.getElem?_range h]
  rfl
theorem lp_rounds (b s : List Int) (cap : Nat) (h2 : b.length ≤ s.length) (h3 : b.length ≤ 1000000) : ∀ (k i : Nat), i + k = b.length → Reaches Try.prog 0 (hdAt fLP 10 [] (k + 1)) (lpS b s (turnL b s) b.length cap i) [.fin] (lpE b)
  | 0, i, h => by
    refine Reaches.one (Reaches.run tyT_ok lpO_ok mixed_ (lp_end _ _ _ _ _ _ _) ?_)
    simp only [allP_cons, allP_nil, and_true, tB_nlt]
    omega
  | k + 1, i, h => by
    refine (Reaches.one (Reaches.run tyT_ok lpO_ok mixed_ (lp_go _ _ _ _ _ _ _) ?_)).trans (lp_rounds b s cap h2 h3 k (i + 1) (by omega))
    simp only [allP_cons, allP_nil, and_true, tB_lt, widths_o, turnL_len, tI_iff, tB_nne, turnL_get b s i (by omega), true_and]
    have := w64 (z := (i : Int) + 1) (by omega) (by omega)
    omega
theorem ixor_zero {z : Int} (h : inR z) : ixor .u8 0 z = z := by
  obtain ⟨h0, h1⟩ := h
  unfold ixor
  have : (BitVec.ofInt IntKind.u8.bits 0 ^^^ BitVec.ofInt IntKind.u8.bits z).toNat = z.toNat := by
    show (BitVec.ofInt 8 0 ^^^ BitVec.ofInt 8 z).toNat = z.toNat
    rw [show BitVec.ofInt 8 0 = 0#8 from rfl, BitVec.zero_xor, BitVec.toNat_ofInt]
    omega
  rw [this, show ((z.toNat : Nat) : Int) = z by omega]
  exact w8 h0 (by omega)
theorem g2_getD (l : List Int) (j : Nat) : g2 l j = l.getD j 0 := by
  simp [g2]
theorem lp_zeros (ks b : List Int) (n : Nat) (h : ∀ z ∈ strm ks ((n + 15) / 16) b, inR z) : tuR ks b (List.replicate n 0) = (strm ks ((n + 15) / 16) b).take n := by
  unfold tuR turnL
  have hl : (strm ks ((n + 15) / 16) b).length = 16 * ((n + 15) / 16) := strm_len _ _ _
  rw [List.length_replicate]
  generalize strm ks ((n + 15) / 16) b = S at *
  refine List.ext_getElem (by simp [List.length_take, hl]; omega) fun j h1 h2 => ?_
  have hj : j < n := by simpa using h1
  have hjS : j < S.length := by omega
  rw [List.getElem_map, List.getElem_range, List.getElem_take]
  have e1 : (List.replicate n (0 : Int)).getD j 0 = 0 := by simp [List.getD_eq_getElem?_getD, hj]
  have e2 : S.getD j 0 = S[j] := by simp [List.getD_eq_getElem?_getD, List.getElem?_eq_getElem hjS]
  rw [e1, e2]
  exact ixor_zero (h _ (List.getElem_mem hjS))
end Go.Proofs.Ytkoackalpcmhaaa.Am
/- Bytes as vectors of bits: a column, mixed, is told by what it is mixed to. Conditions: none. -/
namespace Go.Proofs.Ytkoackalpcmhaaa.Pla
set_option linter.unusedVariables false
set_option linter.unusedSimpArgs false
def xt (v : BitVec 8) : BitVec 8 := (v <<< 1) ^^^ (if v.msb then 27#8 else 0#8)
theorem xt_lin (u v : BitVec 8) : xt (u ^^^ v) = xt u ^^^ xt v := by
  unfold xt
  rw [BitVec.shiftLeft_xor_distrib, BitVec.msb_xor]
  have key : ∀ p q : Bool, (if (p ^^ q) = true then 27#8 else 0#8) = (if p = true then 27#8 else 0#8) ^^^ (if q = true then 27#8 else 0#8) := by decide
  rw [key]
  ac_rfl
theorem xt_zero : xt 0#8 = 0#8 := by decide
/-- A column, mixed: its first byte. -/
def mx (a b c d : BitVec 8) : BitVec 8 := xt a ^^^ xt b ^^^ b ^^^ c ^^^ d
theorem mx_lin (a b c d a' b' c' d' : BitVec 8) : mx (a ^^^ a') (b ^^^ b') (c ^^^ c') (d ^^^ d') = mx a b c d ^^^ mx a' b' c' d' := by
  unfold mx
  rw [xt_lin, xt_lin]
  ac_rfl
theorem xor_zero_eq {u v : BitVec 8} (h : u ^^^ v = 0#8) : u = v := by
  have : u ^^^ v ^^^ v = v := by rw [h, BitVec.zero_xor]
  rwa [BitVec.xor_assoc, BitVec.xor_self, BitVec.xor_zero] at this
theorem mx_ker {a b c d : BitVec 8} (h0 : mx a b c d = 0#8) (h1 : mx b c d a = 0#8) (h2 : mx c d a b = 0#8) (h3 : mx d a b c = 0#8) : a = 0#8 ∧ b = 0#8 ∧ c = 0#8 ∧ d = 0#8 := by
  have hs : a ^^^ b ^^^ c ^^^ d = 0#8 := by
    have e : mx a b c d ^^^ mx b c d a ^^^ mx c d a b ^^^ mx d a b c = (xt a ^^^ xt a) ^^^ (xt b ^^^ xt b) ^^^ (xt c ^^^ xt c) ^^^ (xt d ^^^ xt d) ^^^ ((a ^^^ a) ^^^ (b ^^^ b) ^^^ (c ^^^ c) ^^^ (d ^^^ d)) ^^^ (a ^^^ b ^^^ c ^^^ d) := by
      unfold mx
      ac_rfl
    rw [h0, h1, h2, h3] at e
    simp only [BitVec.xor_self, BitVec.zero_xor] at e
    exact e.symm
  have k0 : a = xt (a ^^^ b) := by
    have e : mx a b c d = (xt (a ^^^ b) ^^^ a) ^^^ (a ^^^ b ^^^ c ^^^ d) := by
      unfold mx
      rw [xt_lin]
      have : a ^^^ a = 0#8 := BitVec.xor_self
      calc xt a ^^^ xt b ^^^ b ^^^ c ^^^ d = xt a ^^^ xt b ^^^ b ^^^ c ^^^ d ^^^ 0#8 := by rw [BitVec.xor_zero]
        _ = xt a ^^^ xt b ^^^ b ^^^ c ^^^ d ^^^ (a ^^^ a) := by rw [this]
        _ = _ := by ac_rfl
    rw [h0, hs, BitVec.xor_zero] at e
    exact (xor_zero_eq e.symm).symm
  have k1 : b = xt (b ^^^ c) := by
    have e : mx b c d a = (xt (b ^^^ c) ^^^ b) ^^^ (a ^^^ b ^^^ c ^^^ d) := by
      unfold mx
      rw [xt_lin]
      have : b ^^^ b = 0#8 := BitVec.xor_self
      calc xt b ^^^ xt c ^^^ c ^^^ d ^^^ a = xt b ^^^ xt c ^^^ c ^^^ d ^^^ a ^^^ 0#8 := by rw [BitVec.xor_zero]
        _ = xt b ^^^ xt c ^^^ c ^^^ d ^^^ a ^^^ (b ^^^ b) := by rw [this]
        _ = _ := by ac_rfl
    rw [h1, hs, BitVec.xor_zero] at e
    exact (xor_zero_eq e.symm).symm
  have k2 : c = xt (c ^^^ d) := by
    have e : mx c d a b = (xt (c ^^^ d) ^^^ c) ^^^ (a ^^^ b ^^^ c ^^^ d) := by
      unfold mx
      rw [xt_lin]
      have : c ^^^ c = 0#8 := BitVec.xor_self
      calc xt c ^^^ xt d ^^^ d ^^^ a ^^^ b = xt c ^^^ xt d ^^^ d ^^^ a ^^^ b ^^^ 0#8 := by rw [BitVec.xor_zero]
        _ = xt c ^^^ xt d ^^^ d ^^^ a ^^^ b ^^^ (c ^^^ c) := by rw [this]
        _ = _ := by ac_rfl
    rw [h2, hs, BitVec.xor_zero] at e
    exact (xor_zero_eq e.symm).symm
  have k3 : d = xt (d ^^^ a) := by
    have e : mx d a b c = (xt (d ^^^ a) ^^^ d) ^^^ (a ^^^ b ^^^ c ^^^ d) := by
      unfold mx
      rw [xt_lin]
      have : d ^^^ d = 0#8 := BitVec.xor_self
      calc xt d ^^^ xt a ^^^ a ^^^ b ^^^ c = xt d ^^^ xt a ^^^ a ^^^ b ^^^ c ^^^ 0#8 := by rw [BitVec.xor_zero]
        _ = xt d ^^^ xt a ^^^ a ^^^ b ^^^ c ^^^ (d ^^^ d) := by rw [this]
        _ = _ := by ac_rfl
    rw [h3, hs, BitVec.xor_zero] at e
    exact (xor_zero_eq e.symm).symm
  have hac : a = c := by
    refine xor_zero_eq ?_
    have e : a ^^^ c = xt (a ^^^ b ^^^ c ^^^ d) := by
      rw [show a ^^^ b ^^^ c ^^^ d = (a ^^^ b) ^^^ (c ^^^ d) by ac_rfl, xt_lin, ← k0, ← k2]
    rw [e, hs, xt_zero]
  have hbd : b = d := by
    refine xor_zero_eq ?_
    have e : b ^^^ d = xt (a ^^^ b ^^^ c ^^^ d) := by
      rw [show a ^^^ b ^^^ c ^^^ d = (b ^^^ c) ^^^ (d ^^^ a) by ac_rfl, xt_lin, ← k1, ← k3]
    rw [e, hs, xt_zero]
  subst hac hbd
  have hab : a = b := by
    refine xor_zero_eq ?_
    have e : a ^^^ b = xt ((a ^^^ b) ^^^ (b ^^^ a)) := by rw [xt_lin, ← k0, ← k1]
    rw [e, show (a ^^^ b) ^^^ (b ^^^ a) = (a ^^^ a) ^^^ (b ^^^ b) by ac_rfl, BitVec.xor_self, BitVec.xor_self, BitVec.xor_self, xt_zero]
  subst hab
  rw [BitVec.xor_self, xt_zero] at k0
  exact ⟨k0, k0, k0, k0⟩
theorem mx_inj {a b c d a' b' c' d' : BitVec 8} (h0 : mx a b c d = mx a' b' c' d') (h1 : mx b c d a = mx b' c' d' a') (h2 : mx c d a b = mx c' d' a' b') (h3 : mx d a b c = mx d' a' b' c') : a = a' ∧ b = b' ∧ c = c' ∧ d = d' := by
  obtain ⟨k0, k1, k2, k3⟩ := mx_ker (a := a ^^^ a') (b := b ^^^ b') (c := c ^^^ c') (d := d ^^^ d') (by rw [mx_lin, h0, BitVec.xor_self]) (by rw [mx_lin, h1, BitVec.xor_self]) (by rw [mx_lin, h2, BitVec.xor_self]) (by rw [mx_lin, h3, BitVec.xor_self])
  exact ⟨xor_zero_eq k0, xor_zero_eq k1, xor_zero_eq k2, xor_zero_eq k3⟩
/-! bytes as integers -/
theorem byte_bv {z : Int} (h : 0 ≤ z) (h' : z < 256) : ((BitVec.ofInt 8 z).toNat : Int) = z := by
  rw [BitVec.toNat_ofInt]
  omega
theorem bv_inj {a b : Int} (ha : 0 ≤ a ∧ a < 256) (hb : 0 ≤ b ∧ b < 256) (h : BitVec.ofInt 8 a = BitVec.ofInt 8 b) : a = b := by
  rw [← byte_bv ha.1 ha.2, ← byte_bv hb.1 hb.2, h]
theorem bv_wrap (v : BitVec 8) : BitVec.ofInt 8 (v.toNat : Int) = v := by
  apply BitVec.eq_of_toNat_eq
  rw [BitVec.toNat_ofInt]
  have := v.isLt
  omega
end Go.Proofs.Ytkoackalpcmhaaa.Pla
/- The cipher: unlike blocks are unlike as it has them. Conditions: none. -/
namespace Go.Proofs.Ytkoackalpcmhaaa.Am
set_option linter.unusedVariables false
set_option linter.unusedSimpArgs false
open Go Go.RowKit
variable [GT]
open Pla (xt mx)

omit [GT] in
def bv (z : Int) : BitVec 8 := BitVec.ofInt 8 z
theorem wrap_bv (v : BitVec 8) : IntKind.u8.wrap (v.toNat : Int) = (v.toNat : Int) := u8_small (by omega) (by have := v.isLt; omega)
theorem bx_bv (a b : Int) : bx a b = ((bv a ^^^ bv b).toNat : Int) := wrap_bv (BitVec.ofInt 8 a ^^^ BitVec.ofInt 8 b)
theorem bv_bx (a b : Int) : bv (bx a b) = bv a ^^^ bv b := by rw [bx_bv]; exact Pla.bv_wrap _
theorem bv_inj {a b : Int} (ha : inR a) (hb : inR b) (h : bv a = bv b) : a = b := Pla.bv_inj ⟨ha.1, by have := ha.1; have := ha.2; omega⟩ ⟨hb.1, by have := hb.1; have := hb.2; omega⟩ h
theorem msb_and : ∀ v : BitVec 8, ((v &&& 128#8).toNat == 0) = !v.msb := by decide +kernel
theorem ba_bv (z : Int) : (ba z 128 != 0) = (bv z).msb := by
  have e : ba z 128 = ((bv z &&& 128#8).toNat : Int) := wrap_bv (BitVec.ofInt 8 z &&& BitVec.ofInt 8 128)
  rw [e]
  have := msb_and (bv z)
  cases hm : (bv z).msb with
  | true =>
    rw [hm] at this
    simp only [Bool.not_true, beq_eq_false_iff_ne] at this
    rw [bne_iff_ne]
    omega
  | false =>
    rw [hm] at this
    simp only [Bool.not_false, beq_iff_eq] at this
    rw [this]
    rfl
theorem bv_bs (z : Int) : bv (bs z 1) = bv z <<< 1 := by
  have e : bs z 1 = (z * 2) % 256 := u8_eq (z * 2 ^ 1)
  rw [e]
  apply BitVec.eq_of_toNat_eq
  unfold bv
  rw [BitVec.toNat_shiftLeft, BitVec.toNat_ofInt, BitVec.toNat_ofInt, Nat.shiftLeft_eq]
  omega
theorem bv_tw (z : Int) : bv (tw z) = xt (bv z) := by
  unfold tw xt
  rw [ba_bv]
  cases (bv z).msb with
  | true => rw [if_pos rfl, if_pos rfl, bv_bx, bv_bs]; rfl
  | false => rw [if_neg (by decide), if_neg (by decide), bv_bs, BitVec.xor_zero]
theorem bv_zero : bv 0 = 0#8 := by decide
theorem gAdd_eq (kf g : Nat → Int) (r i : Nat) : gAdd kf r g i = bx (bx 0 (g i)) (kf (16 * r + i)) := by
  obtain ⟨c, k, hk, rfl⟩ : ∃ c k : Nat, k < 4 ∧ i = 4 * c + k := ⟨i / 4, i % 4, by omega, by omega⟩
  have e1 : (4 * c + k) / 4 = c := by omega
  have e2 : (4 * c + k) % 4 = k := by omega
  unfold gAdd wk
  rw [e1, e2]
  match k, hk with
  | 0, _ => rfl
  | 1, _ => rfl
  | 2, _ => rfl
  | 3, _ => rfl
theorem gAdd_bv (kf g : Nat → Int) (r i : Nat) : bv (gAdd kf r g i) = bv (g i) ^^^ bv (kf (16 * r + i)) := by
  rw [gAdd_eq, bv_bx, bv_bx, bv_zero, BitVec.zero_xor]
omit [GT] in
def EqOn (g h : Nat → Int) : Prop := ∀ i, i < 16 → g i = h i
omit [GT] in
def RIn (g : Nat → Int) : Prop := ∀ i, i < 16 → inR (g i)
theorem gAdd_inj {kf g h : Nat → Int} {r : Nat} (hg : RIn g) (hh : RIn h) (e : EqOn (gAdd kf r g) (gAdd kf r h)) : EqOn g h := fun i hi => by
  refine bv_inj (hg i hi) (hh i hi) ?_
  have := congrArg bv (e i hi)
  rw [gAdd_bv, gAdd_bv] at this
  have h2 := congrArg (fun v => v ^^^ bv (kf (16 * r + i))) this
  simpa only [BitVec.xor_assoc, BitVec.xor_self, BitVec.xor_zero] using h2
theorem sb_inj {a b : Int} (ha : inR a) (hb : inR b) (h : sb a = sb b) : a = b := by
  have key : (List.range 256).all (fun i => sbox.idxOf (sbox.getD i 0) == i) = true := by decide +kernel
  rw [List.all_eq_true] at key
  have h1 := key a.toNat (List.mem_range.2 (by have := ha.2; omega))
  have h2 := key b.toNat (List.mem_range.2 (by have := hb.2; omega))
  rw [beq_iff_eq] at h1 h2
  have h : sbox.getD a.toNat 0 = sbox.getD b.toNat 0 := h
  rw [h, h2] at h1
  have := ha.1
  have := hb.1
  omega
theorem sb_range (x : Int) : inR (sb x) := by
  have key : sbox.all (fun z => decide (0 ≤ z) && Nat.ble z.toNat 255) = true := by decide +kernel
  rw [List.all_eq_true] at key
  refine g2_range (fun z hz => ?_) _
  have := key z hz
  rw [Bool.and_eq_true] at this
  exact ⟨of_decide_eq_true this.1, Nat.le_of_ble_eq_true this.2⟩
theorem gRow_inj {g h : Nat → Int} (hg : RIn g) (hh : RIn h) (e : EqOn (gRow g) (gRow h)) : EqOn g h := fun j hj => by
  have h1 := e (4 * ((j / 4 + 4 - j % 4) % 4) + j % 4) (by omega)
  unfold gRow at h1
  rw [show 4 * (((4 * ((j / 4 + 4 - j % 4) % 4) + j % 4) / 4 + (4 * ((j / 4 + 4 - j % 4) % 4) + j % 4) % 4) % 4) + (4 * ((j / 4 + 4 - j % 4) % 4) + j % 4) % 4 = j by omega] at h1
  exact sb_inj (hg j hj) (hh j hj) h1
theorem mixW_bv (a b c d : Int) : bv (g2 (mixW a b c d) 0) = mx (bv a) (bv b) (bv c) (bv d) ∧ bv (g2 (mixW a b c d) 1) = mx (bv b) (bv c) (bv d) (bv a) ∧ bv (g2 (mixW a b c d) 2) = mx (bv c) (bv d) (bv a) (bv b) ∧ bv (g2 (mixW a b c d) 3) = mx (bv d) (bv a) (bv b) (bv c) := by
  refine ⟨?_, ?_, ?_, ?_⟩
  · show bv (bx (bx (bx (bx (bx 0 (tw a)) (tw b)) b) c) d) = _
    simp only [bv_bx, bv_tw, bv_zero, BitVec.zero_xor, mx]
  · show bv (bx (bx (bx (bx (bx 0 (tw b)) (tw c)) c) d) a) = _
    simp only [bv_bx, bv_tw, bv_zero, BitVec.zero_xor, mx]
  · show bv (bx (bx (bx (bx (bx 0 (tw c)) (tw d)) d) a) b) = _
    simp only [bv_bx, bv_tw, bv_zero, BitVec.zero_xor, mx]
  · show bv (bx (bx (bx (bx (bx 0 (tw d)) (tw a)) a) b) c) = _
    simp only [bv_bx, bv_tw, bv_zero, BitVec.zero_xor, mx]
theorem gMix_at (g : Nat → Int) (c k : Nat) (hk : k < 4) : gMix g (4 * c + k) = g2 (mixW (g (4 * c)) (g (4 * c + 1)) (g (4 * c + 2)) (g (4 * c + 3))) k := by
  unfold gMix
  rw [show (4 * c + k) / 4 = c by omega, show (4 * c + k) % 4 = k by omega]
theorem gMix_inj {g h : Nat → Int} (hg : RIn g) (hh : RIn h) (e : EqOn (gMix g) (gMix h)) : EqOn g h := fun i hi => by
  obtain ⟨c, k, hk, hc, rfl⟩ : ∃ c k : Nat, k < 4 ∧ c < 4 ∧ i = 4 * c + k := ⟨i / 4, i % 4, by omega, by omega, by omega⟩
  obtain ⟨a0, a1, a2, a3⟩ := mixW_bv (g (4 * c)) (g (4 * c + 1)) (g (4 * c + 2)) (g (4 * c + 3))
  obtain ⟨b0, b1, b2, b3⟩ := mixW_bv (h (4 * c)) (h (4 * c + 1)) (h (4 * c + 2)) (h (4 * c + 3))
  have e' : ∀ j, j < 4 → bv (g2 (mixW (g (4 * c)) (g (4 * c + 1)) (g (4 * c + 2)) (g (4 * c + 3))) j) = bv (g2 (mixW (h (4 * c)) (h (4 * c + 1)) (h (4 * c + 2)) (h (4 * c + 3))) j) := fun j hj => by
    rw [← gMix_at g c j hj, ← gMix_at h c j hj, e (4 * c + j) (by omega)]
  obtain ⟨k0, k1, k2, k3⟩ := Pla.mx_inj (a0.symm.trans ((e' 0 (by omega)).trans b0)) (a1.symm.trans ((e' 1 (by omega)).trans b1)) (a2.symm.trans ((e' 2 (by omega)).trans b2)) (a3.symm.trans ((e' 3 (by omega)).trans b3))
  refine bv_inj (hg _ hi) (hh _ hi) ?_
  match k, hk with
  | 0, _ => exact k0
  | 1, _ => exact k1
  | 2, _ => exact k2
  | 3, _ => exact k3
theorem gRow_in (g : Nat → Int) : RIn (gRow g) := fun i _ => sb_range _
theorem rnds_in {kf : Nat → Int} : ∀ (n r : Nat) {g : Nat → Int}, RIn g → RIn (rnds kf r n g)
  | 0, _, _, h => h
  | n + 1, r, _, _ => rnds_in n (r + 1) fun i _ => gAdd_range _ _ _ i
theorem gMix_in (g : Nat → Int) : RIn (gMix g) := fun i _ => by
  refine g2_range (fun x hx => ?_) _
  simp only [mixW, wx, List.mem_cons, List.not_mem_nil, or_false] at hx
  rcases hx with rfl | rfl | rfl | rfl <;> exact bx_range _ _
theorem rnds_inj {kf : Nat → Int} : ∀ (n r : Nat) {g h : Nat → Int}, RIn g → RIn h → EqOn (rnds kf r n g) (rnds kf r n h) → EqOn g h
  | 0, _, _, _, _, _, e => e
  | n + 1, r, g, h, hg, hh, e => gRow_inj hg hh (gMix_inj (gRow_in g) (gRow_in h) (gAdd_inj (gMix_in _) (gMix_in _) (rnds_inj n (r + 1) (fun i _ => gAdd_range _ _ _ i) (fun i _ => gAdd_range _ _ _ i) e)))
theorem enc_inj {ks a b : List Int} (ha : a.length = 16) (hb : b.length = 16) (ra : ∀ j, inR (g2 a j)) (rb : ∀ j, inR (g2 b j)) (e : encL ks a = encL ks b) : a = b := by
  have e1 : EqOn (encG (g2 ks) (g2 a)) (encG (g2 ks) (g2 b)) := fun i hi => by
    have := congrArg (fun l => g2 l i) e
    unfold encL at this
    simp only [g2_keyL 16 _ i hi] at this
    exact this
  have hr : ∀ l, RIn (gAdd (g2 ks) 0 (g2 l)) := fun l i _ => gAdd_range _ _ _ i
  have e2 := gAdd_inj (fun i _ => ra i) (fun i _ => rb i) (rnds_inj 13 1 (hr a) (hr b) (gRow_inj (rnds_in 13 1 (hr a)) (rnds_in 13 1 (hr b)) (gAdd_inj (gRow_in _) (gRow_in _) e1)))
  rw [← keyL_g2 ha, ← keyL_g2 hb]
  exact keyL_congr e2
theorem enc_beq {ks a b : List Int} (ha : a.length = 16) (hb : b.length = 16) (ra : ∀ j, inR (g2 a j)) (rb : ∀ j, inR (g2 b j)) : ((encL ks a == encL ks b) == (a == b)) = true := by
  by_cases h : a = b
  · subst h; simp
  · have h2 : encL ks a ≠ encL ks b := fun e => h (enc_inj ha hb ra rb e)
    rw [beq_eq_false_iff_ne.2 h2, beq_eq_false_iff_ne.2 h]
    rfl
theorem lawOthers_run (kf af bf : Nat → Int) : wholeV tyT mO (atH 4 17 (isB true) noH) [] 1000 Try.f5 [.av (.one (.arr .u8 (keyL 32 kf))), .av (.one (.arr .u8 (keyL 16 af))), .av (.one (.arr .u8 (keyL 16 bf)))] = some (ofV (.bool true), [32 ≤ 32 ∧ ∀ j, j < 32 → inR (g2 (keyL 32 kf) (0 + j)), sbox = sbox, sbox = sbox, isA ((encL (keyL 240 (schedW (keyL 32 kf) 0)) (keyL 16 af) == encL (keyL 240 (schedW (keyL 32 kf) 0)) (keyL 16 bf)) == (keyL 16 af == keyL 16 bf)) true]) := by
  kernel_rfl
theorem lawOthers_fact (ks a b : List Int) (lk : ks.length = 32) (la : a.length = 16) (lb : b.length = 16) (wk : ∀ z ∈ ks, (Lit.int .u8 z).wf = true) (wa : ∀ z ∈ a, (Lit.int .u8 z).wf = true) (wb : ∀ z ∈ b, (Lit.int .u8 z).wf = true) (w : World) (hgw : GWok w.heap.size [] w) : Calls Try.prog 5 #[.agg (ks.map (Value.int .u8)).toArray, .agg (a.map (Value.int .u8)).toArray, .agg (b.map (Value.int .u8)).toArray] w fun e w' => e = .returned (.bool true) ∧ Below w.heap.size w w' := by
  have := am_val tyT_ok mO_ok mixed_ Try.func5 (avs := [.av (.one (.arr .u8 (keyL 32 (g2 ks)))), .av (.one (.arr .u8 (keyL 16 (g2 a)))), .av (.one (.arr .u8 (keyL 16 (g2 b))))]) (by kernel_rfl) (lawOthers_run (g2 ks) (g2 a) (g2 b)) ⟨⟨Nat.le_refl _, fun j _ => by rw [keyL_g2 lk]; exact wf_g2 wk _⟩, rfl, rfl, fun ρ => by
    rw [keyL_g2 la, keyL_g2 lb, enc_beq la lb (wf_g2 wa) (wf_g2 wb)], trivial⟩ (by kernel_rfl) (by kernel_rfl) (fun _ => ⟨none, 0⟩) w hgw
  rw [keyL_g2 lk, keyL_g2 la, keyL_g2 lb] at this
  exact this
end Go.Proofs.Ytkoackalpcmhaaa.Am
/- Law 05's Parts: the law. Conditions: none. -/
namespace Go.Proofs.Ytkoackalpcmhaaa.Am
set_option linter.unusedVariables false
set_option linter.unusedSimpArgs false
open Go Go.RowKit
set_option linter.unusedSectionVars false
variable [GT]
theorem encL_in (ks b : List Int) : ∀ z ∈ encL ks b, inR z := fun z hz => by
  unfold encL keyL at hz
  obtain ⟨i, _, rfl⟩ := List.mem_map.1 hz
  unfold encG
  rw [gAdd_eq]
  exact bx_range _ _
theorem strm_in (ks : List Int) : ∀ (n : Nat) (b : List Int), ∀ z ∈ strm ks n b, inR z
  | 0, _, z, h => by cases h
  | n + 1, b, z, h => by
    unfold strm at h
    rcases List.mem_append.1 h with h | h
    · exact encL_in _ _ z h
    · exact strm_in ks n _ z h
theorem lp_ok (kf bf : Nat → Int) (b : List Int) (cap : Nat) (h : b.length ≤ 150) (hc : b.length ≤ cap) (hk : ∀ j, inR (kf j)) : From Try.prog fLP (lpA kf bf b.length cap) (lpP b) 1 [] [.fin] (lpE b) := by
  have S0 : (lsS kf bf ((b.length + 15) / 16)).length = 16 * ((b.length + 15) / 16) := strm_len _ _ _
  have Z0 : (lpZ kf bf (List.replicate b.length 0)).length = b.length := by unfold lpZ tuR; rw [turnL_len, List.length_replicate]
  have Z1 : lpZ kf bf (List.replicate b.length 0) = (lsS kf bf ((b.length + 15) / 16)).take b.length := lp_zeros _ _ _ (strm_in _ _ _)
  have hrun := From.run tyT_ok lpO_ok mixed_ (lp_run kf bf b cap) ?_
  · refine hrun.trans (Reaches.rounds (b.length + 1) (lp_rounds b (lsS kf bf ((b.length + 15) / 16)) cap (by omega) (by omega) b.length 0 (by omega)))
  · have kl : (lsK kf).length = 240 := keyL_len _ _
    refine ⟨tB_ngt.2 (by omega), ⟨Nat.le_refl _, fun j hj => ?_⟩, ⟨rfl, by omega, by omega⟩, ⟨rfl, hc⟩, ⟨rfl, kl, keyL_len _ _, by omega⟩, tB_nne.2 rfl, tB_nne.2 rfl, ⟨by omega, by unfold okSize; omega⟩, ⟨by omega, by unfold okSize; omega⟩, by omega, rfl, ⟨by rw [List.length_replicate], Nat.le_refl _⟩, ⟨rfl, kl, keyL_len _ _, by rw [List.length_replicate]; omega⟩, ?_, ?_, ?_, trivial⟩
    · rw [Nat.zero_add, g2_keyL 32 _ j hj]
      exact hk j
    · rw [widths_o, Z0, List.length_replicate]; omega
    · rw [widths_o, S0]; omega
    · rw [Z1, List.length_replicate, List.take_take, Nat.min_self, tB_iff, beq_self_eq_true]; rfl
theorem lawParts_fact (key f b : List Int) (a : Option Addr) (cap : Nat) (lk : key.length = 32) (lf : f.length = 16) (wk : ∀ z ∈ key, (Lit.int .u8 z).wf = true) {W : World} (hgw : GWok W.heap.size [] W) (hr : RowAt W ⟨a, cap⟩ .u8 b) : Calls Try.prog 9 #[.agg (key.map (Value.int .u8)).toArray, .agg (f.map (Value.int .u8)).toArray, .slice a b.length cap] W fun e w' => e = .returned (.bool true) ∧ Below W.heap.size W w' := by
  have hG := hr_rows [(⟨a, cap⟩, .u8, b)] (fun x hx => by simp at hx; subst hx; exact hr) hgw
  have hcap : b.length ≤ cap := hr.1
  have hR : From Try.prog fLP (lpA (g2 key) (g2 f) b.length cap) (lpP b) 1 [] [.fin] (lpE b) := by
    by_cases h : b.length ≤ 150
    · exact lp_ok _ _ b cap h hcap (wf_g2 wk)
    · exact From.run tyT_ok lpO_ok mixed_ (lp_long _ _ b b.length cap) ⟨tB_gt.2 (by omega), trivial⟩
  have := law_reach Try.func9 hR (.inr rfl) (by kernel_rfl) (by kernel_rfl) (by kernel_rfl) hG
  simp only [lpA, List.map_cons, List.map_nil, conc_s0, keyL_g2 lk, keyL_g2 lf] at this
  exact this
end Go.Proofs.Ytkoackalpcmhaaa.Am
/- The reference's product of two bytes, and a byte turned left. Conditions: none. -/
namespace Go.Proofs.Ytkoackalpcmhaaa.Am
set_option linter.unusedVariables false
set_option linter.unusedSimpArgs false
open Go Go.RowKit
variable [GT]

omit [GT] in
def xo (a b : Int) : Int := IntKind.i64.wrap (BitVec.ofInt IntKind.i64.bits a ^^^ BitVec.ofInt IntKind.i64.bits b).toNat
omit [GT] in
def d2 (a : Int) : Int := IntKind.i64.wrap (a * 2)
omit [GT] in
def h2 (b : Int) : Int := IntKind.i64.wrap (b.tdiv 2)
omit [GT] in
noncomputable def pTodo : List AI := match Try.f25.body with
  | some c => todoOf (arun tyT [] noH [] 1000 [.code c] (start [ofV (.int .i64 0), ofV (.int .i64 0)] 23 [] 0 []))
  | none => []
omit [GT] in
noncomputable def pX : Code := loopOf pTodo
omit [GT] in
noncomputable def pK : List AI := restOf pTodo
omit [GT] in
def pS (a b o : Int) : St := { tm := tmL 23 [(0, ofV (.int .i64 a)), (1, ofV (.int .i64 b)), (5, ofV (.int .i64 o))], hp := [], nx := 0, gl := [] }
theorem p_start (a b : Int) {c : Code} (hc : Try.f25.body = some c) : runN tyT [] noH [] 1000 0 [] [0, 1, 5] [.code c] (start [ofV (.int .i64 a), ofV (.int .i64 b)] 23 [] 0 []) = some (.code (.loop pX) :: pK, pS a b 0, []) := by
  have : ∀ d, Try.f25.body = d → (match d with | some c => runN tyT [] noH [] 1000 0 [] [0, 1, 5] [.code c] (start [ofV (.int .i64 a), ofV (.int .i64 b)] 23 [] 0 []) | none => none) = some (.code (.loop pX) :: pK, pS a b 0, []) := by
    intro d hd
    subst hd
    kernel_rfl
  exact this _ hc
omit [GT] in
def pH (x y z : Bool) : Nat → Nat → Hint := atH 2 1 (isB x) (atH 3 2 (isB y) (atH 6 1 (isB z) noH))
omit [GT] in
def pP (a b : Int) (y z : Bool) : List Prop := [isA (decide (b > 0)) true, isA (b.tmod 2 == 1) y, isA (decide (d2 a > 255)) z]
theorem p_tt (a b o : Int) (n : Nat) : runN tyT [] (pH true true true) [] 1000 0 [] [0, 1, 5] (.code pX :: .hd n pX :: pK) (pS a b o) = some (.hd n pX :: pK, pS (xo (d2 a) 283) (h2 b) (xo o a), pP a b true true) := by kernel_rfl
theorem p_tf (a b o : Int) (n : Nat) : runN tyT [] (pH true true false) [] 1000 0 [] [0, 1, 5] (.code pX :: .hd n pX :: pK) (pS a b o) = some (.hd n pX :: pK, pS (d2 a) (h2 b) (xo o a), pP a b true false) := by kernel_rfl
theorem p_ft (a b o : Int) (n : Nat) : runN tyT [] (pH true false true) [] 1000 0 [] [0, 1, 5] (.code pX :: .hd n pX :: pK) (pS a b o) = some (.hd n pX :: pK, pS (xo (d2 a) 283) (h2 b) o, pP a b false true) := by kernel_rfl
theorem p_ff (a b o : Int) (n : Nat) : runN tyT [] (pH true false false) [] 1000 0 [] [0, 1, 5] (.code pX :: .hd n pX :: pK) (pS a b o) = some (.hd n pX :: pK, pS (d2 a) (h2 b) o, pP a b false false) := by kernel_rfl
omit [GT] in
def pEnd (o : Int) : St := { tm := tmL 23 [(4, ofV (.int .i64 o))], hp := [], nx := 0, gl := [] }
theorem p_end (a b o : Int) (n : Nat) : runN tyT [] (pH false false false) [] 1000 0 [] [4] (.code pX :: .hd n pX :: pK) (pS a b o) = some ([.fin], pEnd o, [isA (decide (b > 0)) false]) := by kernel_rfl
omit [GT] in
/-- The product, round by round. -/
def pR : Nat → Int → Int → Int → Int
  | 0, _, _, o => o
  | n + 1, a, b, o => if b > 0 then pR n (if d2 a > 255 then xo (d2 a) 283 else d2 a) (h2 b) (if (b.tmod 2 == 1) = true then xo o a else o) else o
theorem h2_small {b : Int} (h : 0 ≤ b) (h' : b < 512) : h2 b = b / 2 := by
  unfold h2
  rw [Int.tdiv_eq_ediv_of_nonneg h, i64_small (by omega) (by omega)]
theorem p_rounds : ∀ (n : Nat) (a b o : Int), 0 ≤ b → b < 2 ^ n → n ≤ 8 → Reaches Try.prog 0 (.hd (n + 1) pX :: pK) (pS a b o) [.fin] (pEnd (pR n a b o))
  | 0, a, b, o, h, h', _ => Reaches.round (reach_run tyT_ok nil_ok mixed_ (p_end a b o 0) ⟨fun ρ => by rw [decide_eq_false (by simp at h'; omega)], trivial⟩ rfl)
  | n + 1, a, b, o, h, h', hn => by
    unfold pR
    by_cases hb : b > 0
    · rw [if_pos hb]
      have hp : (2 : Int) ^ (n + 1) = 2 * 2 ^ n := by rw [Int.pow_succ, Int.mul_comm]
      have hp8 : (2 : Int) ^ (n + 1) ≤ 256 := by
        have : (2 : Int) ^ (n + 1) ≤ 2 ^ 8 := by exact_mod_cast Nat.pow_le_pow_right (by omega) hn
        omega
      have e := h2_small h (by omega)
      have ih := fun a' o' => p_rounds n a' (h2 b) o' (by omega) (by omega) (by omega)
      have hb' : decide (b > 0) = true := decide_eq_true hb
      cases hy : (b.tmod 2 == 1) <;> cases hz : decide (d2 a > 255)
      · rw [if_neg (of_decide_eq_false hz), if_neg (show ¬ (false = true) by decide)]
        exact Reaches.round ((reach_run tyT_ok nil_ok mixed_ (p_ff a b o (n + 1)) ⟨fun ρ => by rw [hb'], fun ρ => by rw [hy], fun ρ => by rw [hz], trivial⟩ rfl).trans (ih _ _))
      · rw [if_pos (of_decide_eq_true hz), if_neg (show ¬ (false = true) by decide)]
        exact Reaches.round ((reach_run tyT_ok nil_ok mixed_ (p_ft a b o (n + 1)) ⟨fun ρ => by rw [hb'], fun ρ => by rw [hy], fun ρ => by rw [hz], trivial⟩ rfl).trans (ih _ _))
      · rw [if_neg (of_decide_eq_false hz), if_pos rfl]
        exact Reaches.round ((reach_run tyT_ok nil_ok mixed_ (p_tf a b o (n + 1)) ⟨fun ρ => by rw [hb'], fun ρ => by rw [hy], fun ρ => by rw [hz], trivial⟩ rfl).trans (ih _ _))
      · rw [if_pos (of_decide_eq_true hz), if_pos rfl]
        exact Reaches.round ((reach_run tyT_ok nil_ok mixed_ (p_tt a b o (n + 1)) ⟨fun ρ => by rw [hb'], fun ρ => by rw [hy], fun ρ => by rw [hz], trivial⟩ rfl).trans (ih _ _))
    · rw [if_neg hb]
      exact Reaches.round (reach_run tyT_ok nil_ok mixed_ (p_end a b o (n + 1)) ⟨fun ρ => by rw [decide_eq_false hb], trivial⟩ rfl)
omit [GT] in
def pT (a b : Int) : Int := pR 8 a b 0
omit [GT] in
def e2I (k : IntKind) (F : Int → Int → Int) (A : Int → Int → Prop) : Ent := fun args _ _ => match args with
  | [.av (.one (.v (.int i a))), .av (.one (.v (.int j b)))] => match Nat.beq (ik i) (ik k) && Nat.beq (ik j) (ik k) with
    | true => some { val := ofV (.int k (F a b)), asm := .say (A a b) }
    | false => none
  | _ => none
theorem ok_e2I {f : FuncId} {fn : Func} {k : IntKind} {F : Int → Int → Int} {A : Int → Int → Prop} (hf : Try.prog.funcs[f]? = some fn) (h2 : (fn.name == "runtime.NumGoroutine") = false) (h3 : fn.body.isSome = true) (h : ∀ (a b : Int), A a b → ∀ w : World, GWok w.heap.size [] w → Calls Try.prog f #[.int k a, .int k b] w fun e w' => e = .returned (.int k (F a b)) ∧ Below w.heap.size w w') : EntOK Try.prog f (e2I k F A) := by
  refine ⟨⟨fn, hf, h2, h3⟩, fun args G base res hr ha ρ D N M w hG hin hfr => ?_⟩
  unfold e2I at hr
  split at hr
  · rename_i i a j b
    split at hr
    · rename_i hk
      rw [Bool.and_eq_true] at hk
      have e1 := ik_inj hk.1
      have e2 := ik_inj hk.2
      subst e1 e2
      simp only [Option.some.injEq] at hr
      subst hr
      exact ent_val (h a b ha w hG.gwc) hG rfl rfl rfl
    · cases hr
  · cases hr
theorem times_ent : EntOK Try.prog 25 (e2I .i64 pT fun _ b => 0 ≤ b ∧ b < 256) := by
  refine ok_e2I Try.func25 (by kernel_rfl) (by kernel_rfl) fun a b ⟨h1, h2⟩ w hgw => ?_
  obtain ⟨c, hc⟩ : ∃ c, Try.f25.body = some c := Option.isSome_iff_exists.1 (by kernel_rfl)
  exact reach_val tyT_ok Try.func25 hc (avs := [ofV (.int .i64 a), ofV (.int .i64 b)]) (.inr rfl) ((reach_run tyT_ok nil_ok mixed_ (p_start a b hc) trivial rfl).trans (Reaches.loop 9 (p_rounds 8 a b 0 h1 h2 (Nat.le_refl _)))) (v := ofV (.int .i64 (pT a b))) (by kernel_rfl) (by kernel_rfl) (by kernel_rfl) (fun s hs => by
    simp only [List.mem_cons, List.not_mem_nil, or_false] at hs
    rcases hs with rfl | rfl <;> exact fun s hs => (by simp [AV.segs] at hs; subst hs; trivial)) (hr_none hgw) (fun _ => ⟨none, 0⟩)
end Go.Proofs.Ytkoackalpcmhaaa.Am
/- Law 05's steps: 256 of them are one of the next byte. Conditions: none. -/
namespace Go.Proofs.Ytkoackalpcmhaaa.Am
set_option linter.unusedVariables false
set_option linter.unusedSimpArgs false
open Go Go.RowKit
variable [GT]

/-! ### 256 steps, reckoned -/
theorem setAt_self (f : Nat → Int) (p : Nat) : setAt f p (f p) = f := by
  funext j
  unfold setAt
  split
  · rename_i h; rw [h]
  · rfl
theorem setAt_twice (f : Nat → Int) (p : Nat) (a b : Int) : setAt (setAt f p a) p b = setAt f p b := by
  funext j
  unfold setAt
  split <;> rfl
theorem setAt_comm (f : Nat → Int) {p q : Nat} (h : p ≠ q) (a b : Int) : setAt (setAt f p a) q b = setAt (setAt f q b) p a := by
  funext j
  unfold setAt
  by_cases h1 : j = p
  · rw [if_pos h1, if_pos h1, if_neg (by omega)]
  · rw [if_neg h1, if_neg h1]
theorem setAt_at (f : Nat → Int) (p : Nat) (a : Int) : setAt f p a p = a := if_pos rfl
theorem setAt_ne (f : Nat → Int) {p q : Nat} (a : Int) (h : q ≠ p) : setAt f p a q = f q := if_neg h
/-- The bytes ahead of the last don't hang on it. -/
theorem rG_last (v : Int) : ∀ (n i : Nat) (c : Int) (f : Nat → Int), 1 ≤ i → n + i ≤ 16 → rG n i c (setAt f 15 v) = setAt (rG n i c f) 15 v
  | 0, _, _, _, _, _ => rfl
  | n + 1, i, c, f, h, h' => by
    rw [rG, rG, setAt_ne f v (by omega), setAt_comm f (by omega)]
    exact rG_last v n (i + 1) _ _ (by omega) (by omega)
theorem rG_high {j : Nat} (hj : 16 ≤ j) : ∀ (n i : Nat) (c : Int) (f : Nat → Int), rG n i c f j = f j
  | 0, _, _, _ => rfl
  | n + 1, i, c, f => by rw [rG, rG_high hj, setAt_ne _ _ (by omega)]
theorem step_small {f : Nat → Int} (h : ∀ j, inR' (f j)) (h' : f 15 < 255) : rG 16 0 1 f = setAt f 15 (f 15 + 1) := by
  obtain ⟨h1, h2⟩ := h 15
  have e : cN (f 15) 1 = f 15 + 1 := cN_small ⟨h1, h2⟩ (by omega) (by omega)
  have h3 : (0 : Int) ≤ f 15 + 1 := by omega
  rw [rG, Nat.sub_zero, e, Int.tmod_eq_emod_of_nonneg h3, Int.emod_eq_of_lt h3 (by omega), u8_small h3 (by omega), Int.tdiv_eq_ediv_of_nonneg h3, Int.ediv_eq_zero_of_lt h3 (by omega), i64_small (by omega) (by omega)]
  refine rG_zero 15 1 _ fun j => ?_
  unfold setAt
  split
  · constructor <;> omega
  · exact h j
theorem step_full {f : Nat → Int} (h' : f 15 = 255) : rG 16 0 1 f = rG 15 1 1 (setAt f 15 0) := by
  rw [rG, Nat.sub_zero, h']
  rfl
omit [GT] in
def itN : Nat → (Nat → Int) → (Nat → Int)
  | 0, f => f
  | n + 1, f => rG 16 0 1 (itN n f)
theorem it_small {f : Nat → Int} (h : ∀ j, inR' (f j)) : ∀ n : Nat, f 15 + n ≤ 255 → itN n f = setAt f 15 (f 15 + n)
  | 0, _ => by rw [itN, Int.natCast_zero, Int.add_zero, setAt_self]
  | n + 1, hn => by
    have h1 := (h 15).1
    rw [itN, it_small h n (by omega), step_small (fun j => ?_) (by rw [setAt_at]; omega), setAt_at, setAt_twice]
    · congr 1
      omega
    · unfold setAt
      split
      · constructor <;> omega
      · exact h j
theorem it_add (f : Nat → Int) (m : Nat) : ∀ n, itN (n + m) f = itN n (itN m f)
  | 0 => by rw [Nat.zero_add]; rfl
  | n + 1 => by rw [show n + 1 + m = (n + m) + 1 by omega, itN, it_add f m n]; rfl
theorem rG_range : ∀ (n i : Nat) (c : Int) (f : Nat → Int), (∀ j, inR' (f j)) → ∀ j, inR' (rG n i c f j)
  | 0, _, _, _, h => h
  | n + 1, i, c, f, h => fun j => by
    rw [rG]
    refine rG_range n (i + 1) _ _ (fun j => ?_) j
    unfold setAt
    split
    · rw [u8_eq]; constructor <;> omega
    · exact h j
theorem it_256 {f : Nat → Int} (h : ∀ j, inR' (f j)) : itN 256 f = rG 15 1 1 f := by
  obtain ⟨v, hv⟩ : ∃ v : Nat, f 15 = v := ⟨(f 15).toNat, by have := (h 15).1; omega⟩
  have hv' : v ≤ 255 := by have := (h 15).2; omega
  have e1 : itN (255 - v) f = setAt f 15 255 := by
    rw [it_small h _ (by omega)]
    congr 1
    omega
  have e2 : itN (1 + (255 - v)) f = setAt (rG 15 1 1 f) 15 0 := by
    rw [it_add, e1]
    show rG 16 0 1 (setAt f 15 255) = _
    rw [step_full (setAt_at f 15 255), setAt_twice, rG_last 0 15 1 1 f (by omega) (by omega)]
  have hr : ∀ j, inR' (setAt (rG 15 1 1 f) 15 0 j) := fun j => by
    unfold setAt
    split
    · constructor <;> omega
    · exact rG_range 15 1 1 f h j
  have e3 : itN (v + (1 + (255 - v))) f = setAt (rG 15 1 1 f) 15 v := by
    rw [it_add, e2, it_small hr v (by rw [setAt_at]; omega), setAt_at, setAt_twice, Int.zero_add]
  rw [show 256 = v + (1 + (255 - v)) by omega, e3]
  have e4 : rG 15 1 1 f 15 = v := by
    have := congrFun (rG_last (v : Int) 15 1 1 f (by omega) (by omega)) 15
    rw [setAt_at, ← hv, setAt_self] at this
    rw [this, hv]
  rw [← e4, setAt_self]

/-! ### the law -/
omit [GT] in
noncomputable def sTodo : List AI := match Try.f6.body with
  | some c => todoOf (arun tyT mO noH [(10, 16)] 1000 [.code c] (start [.av (.one (.arr .u8 (keyL 16 fun _ => 0)))] 37 [] 0 []))
  | none => []
omit [GT] in
noncomputable def sX : Code := loopOf sTodo
omit [GT] in
noncomputable def sK : List AI := restOf sTodo
omit [GT] in
def sS (bf xf : Nat → Int) (i : Int) : St := { tm := tmL 37 [(1, .av (.one (.p 0 0))), (3, .av (.one (.p 1 0))), (11, ofV (.int .i64 i))], hp := [(0, ⟨0, 23, [.arr .u8 (keyL 16 bf)]⟩), (1, ⟨0, 23, [.arr .u8 (keyL 16 xf)]⟩)], nx := 2, gl := [] }
theorem s_start (bf : Nat → Int) {c : Code} (hc : Try.f6.body = some c) : runN tyT mO noH [(10, 16)] 1000 2 [] [1, 3, 11] [.code c] (start [.av (.one (.arr .u8 (keyL 16 bf)))] 37 [] 0 []) = some (.code (.loop sX) :: sK, sS bf bf 0, []) := by
  have : ∀ d, Try.f6.body = d → (match d with | some c => runN tyT mO noH [(10, 16)] 1000 2 [] [1, 3, 11] [.code c] (start [.av (.one (.arr .u8 (keyL 16 bf)))] 37 [] 0 []) | none => none) = some (.code (.loop sX) :: sK, sS bf bf 0, []) := by
    intro d hd
    subst hd
    kernel_rfl
  exact this _ hc
omit [GT] in
def isV (x y : Int) : Prop := ∀ ρ : Nat → Loc, (ofV (.int .i64 x)).conc ρ = (ofV (.int .i64 y)).conc ρ
theorem s_round (bf xf : Nat → Int) (i : Int) (n : Nat) : runN tyT mO (atH 5 0 (isB true) (atH 7 0 { is := some (ofV (.int .i64 (i + 1))) } noH)) [(10, 16)] 1000 2 [] [1, 3, 11] (.code sX :: .hd n sX :: sK) (sS bf xf i) = some (.hd n sX :: sK, sS bf (nextG 16 0 (g2 (keyL 16 xf))) (i + 1), [isA (decide (i < 256)) true, isV (IntKind.i64.wrap (i + 1)) (i + 1)]) := by
  kernel_rfl
omit [GT] in
def sEnd : St := { tm := tmL 37 [(2, ofV (.bool true))], hp := [], nx := 0, gl := [] }
theorem s_end (bf xf : Nat → Int) (n : Nat) : runN tyT mO (atH 15 2 (isB true) noH) [(10, 16)] 1000 0 [] [2] (.code sX :: .hd n sX :: sK) (sS bf xf 256) = some ([.fin], sEnd, [isA (keyL 16 xf == keyL 16 (rG 15 1 1 bf)) true]) := by
  kernel_rfl
theorem it_fun {bs : List Int} (hl : bs.length = 16) (h : ∀ j, inR' (g2 bs j)) : ∀ n : Nat, n ≤ 256 → ∀ m, Reaches Try.prog 0 (.hd (m + n) sX :: sK) (sS (g2 bs) (g2 bs) 0) (.hd m sX :: sK) (sS (g2 bs) (itN n (g2 bs)) n)
  | 0, _, m => Reaches.refl
  | n + 1, hn, m => by
    have ih := it_fun hl h n (by omega) (m + 1)
    rw [show m + 1 + n = m + (n + 1) by omega] at ih
    have hr : ∀ k j, inR' (itN k (g2 bs) j) := fun k => by
      induction k with
      | zero => exact h
      | succ k ih => exact rG_range 16 0 1 _ ih
    have hg : g2 (keyL 16 (itN n (g2 bs))) = itN n (g2 bs) := by
      funext j
      by_cases hj : j < 16
      · exact g2_keyL 16 _ j hj
      · have hz : ∀ k, itN k (g2 bs) j = g2 bs j := fun k => by
          induction k with
          | zero => rfl
          | succ k ih => rw [itN, rG_high (by omega)]; exact ih
        rw [hz, g2, g2, List.getD_eq_getElem?_getD, List.getD_eq_getElem?_getD, List.getElem?_eq_none (by rw [keyL_len]; omega), List.getElem?_eq_none (by omega)]
    have hs := reach_run (m0 := 0) tyT_ok mO_ok mixed_ (s_round (g2 bs) (itN n (g2 bs)) n m) ⟨fun ρ => by rw [decide_eq_true (by omega)], fun ρ => by rw [i64_small (by omega) (by omega)], trivial⟩ rfl
    rw [hg, next_rG 16 0 _ (hr n)] at hs
    exact ih.trans (Reaches.round hs)
theorem lawSteps_fact (bs : List Int) (hl : bs.length = 16) (hw : ∀ z ∈ bs, (Lit.int .u8 z).wf = true) (w : World) (hgw : GWok w.heap.size [] w) : Calls Try.prog 6 #[.agg (bs.map (Value.int .u8)).toArray] w fun e w' => e = .returned (.bool true) ∧ Below w.heap.size w w' := by
  have hr : ∀ j, inR' (g2 bs j) := wf_g2 hw
  obtain ⟨c, hc⟩ : ∃ c, Try.f6.body = some c := Option.isSome_iff_exists.1 (by kernel_rfl)
  have hR : Reaches Try.prog 0 [.code c] (start [.av (.one (.arr .u8 (keyL 16 (g2 bs))))] 37 [] 0 []) [.fin] sEnd :=
    (reach_run tyT_ok mO_ok mixed_ (s_start (g2 bs) hc) trivial rfl).trans (Reaches.loop (1 + 256) ((it_fun hl hr 256 (Nat.le_refl _) 1).trans (Reaches.round (reach_run tyT_ok mO_ok mixed_ (s_end (g2 bs) (itN 256 (g2 bs)) 0) ⟨fun ρ => by rw [it_256 hr, beq_self_eq_true], trivial⟩ rfl))))
  have := reach_val tyT_ok Try.func6 hc (avs := [.av (.one (.arr .u8 (keyL 16 (g2 bs))))]) (.inr rfl) hR (v := ofV (.bool true)) (by kernel_rfl) (by kernel_rfl) (by kernel_rfl) (fun s hs => by
    simp only [List.mem_cons, List.not_mem_nil, or_false] at hs
    subst hs
    exact fun s hs => (by simp [AV.segs] at hs; subst hs; trivial)) (hr_none hgw) (fun _ => ⟨none, 0⟩)
  rw [keyL_g2 hl] at this
  exact this
end Go.Proofs.Ytkoackalpcmhaaa.Am
/- The reference's byte turned left, and its boxes' inner loop. Conditions: none. -/
namespace Go.Proofs.Ytkoackalpcmhaaa.Am
set_option linter.unusedVariables false
set_option linter.unusedSimpArgs false
open Go Go.RowKit
variable [GT]

omit [GT] in
noncomputable def lTodo : List AI := match Try.f26.body with
  | some c => todoOf (arun tyT [] noH [] 1000 [.code c] (start [ofV (.int .i64 0), ofV (.int .i64 0)] 18 [] 0 []))
  | none => []
omit [GT] in
noncomputable def lX : Code := loopOf lTodo
omit [GT] in
noncomputable def lK : List AI := restOf lTodo
omit [GT] in
def lS (b n i : Int) : St := { tm := tmL 18 [(0, ofV (.int .i64 b)), (1, ofV (.int .i64 n)), (5, ofV (.int .i64 i))], hp := [], nx := 0, gl := [] }
theorem l_start (b n : Int) {c : Code} (hc : Try.f26.body = some c) : runN tyT [] noH [] 1000 0 [] [0, 1, 5] [.code c] (start [ofV (.int .i64 b), ofV (.int .i64 n)] 18 [] 0 []) = some (.code (.loop lX) :: lK, lS b n 0, []) := by
  have : ∀ d, Try.f26.body = d → (match d with | some c => runN tyT [] noH [] 1000 0 [] [0, 1, 5] [.code c] (start [ofV (.int .i64 b), ofV (.int .i64 n)] 18 [] 0 []) | none => none) = some (.code (.loop lX) :: lK, lS b n 0, []) := by
    intro d hd
    subst hd
    kernel_rfl
  exact this _ hc
omit [GT] in
def lH (x y : Bool) (i : Int) : Nat → Nat → Hint := atH 2 2 (isB x) (atH 5 1 (isB y) (atH 3 1 { is := some (ofV (.int .i64 (i + 1))) } noH))
omit [GT] in
def s255 (a : Int) : Int := IntKind.i64.wrap (a - 255)
theorem l_t (b n i : Int) (k : Nat) : runN tyT [] (lH true true i) [] 1000 0 [] [0, 1, 5] (.code lX :: .hd k lX :: lK) (lS b n i) = some (.hd k lX :: lK, lS (s255 (d2 b)) n (i + 1), [isA (decide (i < n)) true, isA (decide (d2 b > 255)) true, isV (IntKind.i64.wrap (i + 1)) (i + 1)]) := by kernel_rfl
theorem l_f (b n i : Int) (k : Nat) : runN tyT [] (lH true false i) [] 1000 0 [] [0, 1, 5] (.code lX :: .hd k lX :: lK) (lS b n i) = some (.hd k lX :: lK, lS (d2 b) n (i + 1), [isA (decide (i < n)) true, isA (decide (d2 b > 255)) false, isV (IntKind.i64.wrap (i + 1)) (i + 1)]) := by kernel_rfl
omit [GT] in
def lEnd (o : Int) : St := { tm := tmL 18 [(4, ofV (.int .i64 o))], hp := [], nx := 0, gl := [] }
theorem l_end (b n i : Int) (k : Nat) : runN tyT [] (lH false false i) [] 1000 0 [] [4] (.code lX :: .hd k lX :: lK) (lS b n i) = some ([.fin], lEnd b, [isA (decide (i < n)) false]) := by kernel_rfl
omit [GT] in
def lR : Nat → Int → Int
  | 0, b => b
  | k + 1, b => lR k (if d2 b > 255 then s255 (d2 b) else d2 b)
theorem l_rounds : ∀ (k : Nat) (b n i : Int), i + k = n → 0 ≤ i → n < 1000 → Reaches Try.prog 0 (.hd (k + 1) lX :: lK) (lS b n i) [.fin] (lEnd (lR k b))
  | 0, b, n, i, h, _, _ => Reaches.round (reach_run tyT_ok nil_ok mixed_ (l_end b n i 0) ⟨fun ρ => by rw [decide_eq_false (by omega)], trivial⟩ rfl)
  | k + 1, b, n, i, h, h0, h1 => by
    unfold lR
    have ih := fun b' => l_rounds k b' n (i + 1) (by omega) (by omega) h1
    have hi : decide (i < n) = true := decide_eq_true (by omega)
    have hw : IntKind.i64.wrap (i + 1) = i + 1 := i64_small (by omega) (by omega)
    cases hz : decide (d2 b > 255)
    · rw [if_neg (of_decide_eq_false hz)]
      exact Reaches.round ((reach_run tyT_ok nil_ok mixed_ (l_f b n i (k + 1)) ⟨fun ρ => by rw [hi], fun ρ => by rw [hz], fun ρ => by rw [hw], trivial⟩ rfl).trans (ih _))
    · rw [if_pos (of_decide_eq_true hz)]
      exact Reaches.round ((reach_run tyT_ok nil_ok mixed_ (l_t b n i (k + 1)) ⟨fun ρ => by rw [hi], fun ρ => by rw [hz], fun ρ => by rw [hw], trivial⟩ rfl).trans (ih _))
theorem left_ent : EntOK Try.prog 26 (e2I .i64 (fun b n => lR n.toNat b) fun _ n => 0 ≤ n ∧ n < 1000) := by
  refine ok_e2I Try.func26 (by kernel_rfl) (by kernel_rfl) fun b n ⟨h1, h2⟩ w hgw => ?_
  obtain ⟨c, hc⟩ : ∃ c, Try.f26.body = some c := Option.isSome_iff_exists.1 (by kernel_rfl)
  exact reach_val tyT_ok Try.func26 hc (avs := [ofV (.int .i64 b), ofV (.int .i64 n)]) (.inr rfl) ((reach_run tyT_ok nil_ok mixed_ (l_start b n hc) trivial rfl).trans (Reaches.loop (n.toNat + 1) (l_rounds n.toNat b n 0 (by omega) (Int.le_refl _) h2))) (v := ofV (.int .i64 (lR n.toNat b))) (by kernel_rfl) (by kernel_rfl) (by kernel_rfl) (fun s hs => by
    simp only [List.mem_cons, List.not_mem_nil, or_false] at hs
    rcases hs with rfl | rfl <;> exact fun s hs => (by simp [AV.segs] at hs; subst hs; trivial)) (hr_none hgw) (fun _ => ⟨none, 0⟩)
end Go.Proofs.Ytkoackalpcmhaaa.Am
/- The reference's boxes: the walk. Conditions: none. -/
namespace Go.Proofs.Ytkoackalpcmhaaa.Am
set_option linter.unusedVariables false
set_option linter.unusedSimpArgs false
open Go Go.RowKit
variable [GT]

omit [GT] in
noncomputable def oO : List (Nat × Ent) := [(25, e2I .i64 pT fun _ b => 0 ≤ b ∧ b < 256), (26, e2I .i64 (fun b n => lR n.toNat b) fun _ n => 0 ≤ n ∧ n < 1000)]
theorem oO_ok : OOK Try.prog oO := ook_of (l := [(25, e2I .i64 pT fun _ b => 0 ≤ b ∧ b < 256), (26, e2I .i64 (fun b n => lR n.toNat b) fun _ n => 0 ≤ n ∧ n < 1000)]) ⟨times_ent, left_ent, trivial⟩
omit [GT] in
def oS (zs : List Int) (b : Int) : St := { tm := tmL 36 [(0, .av (.one (.p 0 0))), (1, .av (.one (.p 1 0))), (2, ofV (.int .i64 b))], hp := [(0, ⟨0, 29, [.arr .i64 (List.replicate 256 0)]⟩), (1, ⟨0, 29, [.arr .i64 zs]⟩)], nx := 2, gl := [] }
omit [GT] in
def iS (zs : List Int) (b n x : Int) : St := { tm := tmL 36 [(0, .av (.one (.p 0 0))), (1, .av (.one (.p 1 0))), (2, ofV (.int .i64 b)), (3, ofV (.int .i64 n)), (4, ofV (.int .i64 x))], hp := [(0, ⟨0, 29, [.arr .i64 (List.replicate 256 0)]⟩), (1, ⟨0, 29, [.arr .i64 zs]⟩)], nx := 2, gl := [] }
omit [GT] in
noncomputable def oTodo : List AI := match Try.f12.body with
  | some c => todoOf (arun tyT oO noH [] 1000 [.code c] (start [] 36 [] 0 []))
  | none => []
omit [GT] in
noncomputable def oX : Code := loopOf oTodo
omit [GT] in
noncomputable def oK : List AI := restOf oTodo
theorem o_start {c : Code} (hc : Try.f12.body = some c) : runN tyT oO noH [] 1000 2 [] [0, 1, 2] [.code c] (start [] 36 [] 0 []) = some (.code (.loop oX) :: oK, oS (List.replicate 256 0) 0, []) := by
  have : ∀ d, Try.f12.body = d → (match d with | some c => runN tyT oO noH [] 1000 2 [] [0, 1, 2] [.code c] (start [] 36 [] 0 []) | none => none) = some (.code (.loop oX) :: oK, oS (List.replicate 256 0) 0, []) := by
    intro d hd
    subst hd
    kernel_rfl
  exact this _ hc
omit [GT] in
noncomputable def iTodo (n : Nat) : List AI := todoOf (arun tyT oO (atH 3 1 (isB true) noH) [] 1000 (.code oX :: .hd n oX :: oK) (oS [] 0))
omit [GT] in
noncomputable def iX : Code := loopOf (iTodo 0)
omit [GT] in
noncomputable def iK (n : Nat) : List AI := restOf (iTodo n)
theorem o_in (zs : List Int) (b : Int) (n : Nat) : runN tyT oO (atH 3 1 (isB true) noH) [] 1000 2 [] [0, 1, 2, 3, 4] (.code oX :: .hd n oX :: oK) (oS zs b) = some (.code (.loop iX) :: iK n, iS zs b 0 0, [isA (decide (b < 256)) true]) := by kernel_rfl
omit [GT] in
def iH (e : Bool) (x : Int) : Nat → Nat → Hint := atH 7 1 (isB true) (atH 9 3 (isB e) (atH 8 1 { is := some (ofV (.int .i64 (x + 1))) } noH))
theorem i_yes (zs : List Int) (b nn x : Int) (n m : Nat) : runN tyT oO (iH true x) [] 1000 2 [] [0, 1, 2, 3, 4] (.code iX :: .hd m iX :: iK n) (iS zs b nn x) = some (.hd m iX :: iK n, iS zs b x (x + 1), [isA (decide (x < 256)) true, 0 ≤ x ∧ x < 256, isA (pT b x == 1) true, isV (IntKind.i64.wrap (x + 1)) (x + 1)]) := by kernel_rfl
theorem i_no (zs : List Int) (b nn x : Int) (n m : Nat) : runN tyT oO (iH false x) [] 1000 2 [] [0, 1, 2, 3, 4] (.code iX :: .hd m iX :: iK n) (iS zs b nn x) = some (.hd m iX :: iK n, iS zs b nn (x + 1), [isA (decide (x < 256)) true, 0 ≤ x ∧ x < 256, isA (pT b x == 1) false, isV (IntKind.i64.wrap (x + 1)) (x + 1)]) := by kernel_rfl
omit [GT] in
def boxV (n : Int) : Int := xo (xo (xo (xo (xo n (lR 1 n)) (lR 2 n)) (lR 3 n)) (lR 4 n)) 99
omit [GT] in
def ieH (b : Int) : Nat → Nat → Hint := atH 7 1 (isB false) (atH 11 15 symH (atH 11 16 symH (atH 4 1 { is := some (ofV (.int .i64 (b + 1))) } noH)))
theorem i_end (zs : List Int) (b nn x : Int) (n m : Nat) : runN tyT oO (ieH b) [] 1000 2 [] [0, 1, 2] (.code iX :: .hd m iX :: iK n) (iS zs b nn x) = some (.hd n oX :: oK, oS (zs.set b.toNat (boxV nn)) (b + 1), [isA (decide (x < 256)) false, (0 : Int) ≤ 1 ∧ (1 : Int) < 1000, (0 : Int) ≤ 2 ∧ (2 : Int) < 1000, (0 : Int) ≤ 3 ∧ (3 : Int) < 1000, (0 : Int) ≤ 4 ∧ (4 : Int) < 1000, 0 ≤ b ∧ b.toNat ≤ 255, b.toNat < zs.length, isV (IntKind.i64.wrap (b + 1)) (b + 1)]) := by kernel_rfl
omit [GT] in
def oEnd (zs : List Int) : St := { tm := tmL 36 [(0, .av (.one (.p 0 0)))], hp := [(0, ⟨0, 29, [.arr .i64 zs]⟩)], nx := 1, gl := [] }
theorem o_end (n : Nat) : runN tyT oO noH [] 1000 1 [] [0] (.code oX :: .hd n oX :: oK) (oS sbox 256) = some ([.fin], oEnd sbox, []) := by kernel_rfl
end Go.Proofs.Ytkoackalpcmhaaa.Am
/- The reference's boxes are the turned bytes. Conditions: none. -/
namespace Go.Proofs.Ytkoackalpcmhaaa.Am
set_option linter.unusedVariables false
set_option linter.unusedSimpArgs false
open Go Go.RowKit
variable [GT]

omit [GT] in
/-- The last number whose product is 1. -/
def inF (b : Int) : Nat → Int → Int → Int
  | 0, _, nn => nn
  | k + 1, x, nn => inF b k (x + 1) (if (pT b x == 1) = true then x else nn)
omit [GT] in
def outF : Nat → Int → List Int → List Int
  | 0, _, zs => zs
  | k + 1, b, zs => outF k (b + 1) (zs.set b.toNat (boxV (inF b 256 0 0)))
theorem i_rounds (zs : List Int) (b : Int) (n : Nat) (hb : 0 ≤ b ∧ b < 256) (hz : zs.length = 256) : ∀ (k : Nat) (nn x : Int), x + k = 256 → 0 ≤ x → Reaches Try.prog 0 (.hd (k + 1) iX :: iK n) (iS zs b nn x) (.hd n oX :: oK) (oS (zs.set b.toNat (boxV (inF b k x nn))) (b + 1))
  | 0, nn, x, h, h0 => Reaches.round (reach_run tyT_ok oO_ok mixed_ (i_end zs b nn x n 0) ⟨fun ρ => by rw [decide_eq_false (by omega)], by decide, by decide, by decide, by decide, ⟨hb.1, by omega⟩, by omega, fun ρ => by rw [i64_small (by omega) (by omega)], trivial⟩ rfl)
  | k + 1, nn, x, h, h0 => by
    unfold inF
    have ih := fun nn' => i_rounds zs b n hb hz k nn' (x + 1) (by omega) (by omega)
    have hx : decide (x < 256) = true := decide_eq_true (by omega)
    have hw : IntKind.i64.wrap (x + 1) = x + 1 := i64_small (by omega) (by omega)
    cases hz' : (pT b x == 1)
    · rw [if_neg (show ¬ (false = true) by decide)]
      exact Reaches.round ((reach_run tyT_ok oO_ok mixed_ (i_no zs b nn x n (k + 1)) ⟨fun ρ => by rw [hx], ⟨h0, by omega⟩, fun ρ => by rw [hz'], fun ρ => by rw [hw], trivial⟩ rfl).trans (ih _))
    · rw [if_pos rfl]
      exact Reaches.round ((reach_run tyT_ok oO_ok mixed_ (i_yes zs b nn x n (k + 1)) ⟨fun ρ => by rw [hx], ⟨h0, by omega⟩, fun ρ => by rw [hz'], fun ρ => by rw [hw], trivial⟩ rfl).trans (ih _))
theorem o_rounds : ∀ (k : Nat) (zs : List Int) (b : Int), b + k = 256 → 0 ≤ b → zs.length = 256 → outF k b zs = sbox → Reaches Try.prog 0 (.hd (k + 1) oX :: oK) (oS zs b) [.fin] (oEnd sbox)
  | 0, zs, b, h, _, _, he => by
    have hb : b = 256 := by omega
    subst hb
    have he : zs = sbox := he
    subst he
    exact Reaches.round (reach_run tyT_ok oO_ok mixed_ (o_end 0) trivial rfl)
  | k + 1, zs, b, h, h0, hz, he => by
    unfold outF at he
    have ih := o_rounds k _ (b + 1) (by omega) (by omega) (by rw [List.length_set]; exact hz) he
    refine Reaches.round ((reach_run tyT_ok oO_ok mixed_ (o_in zs b (k + 1)) ⟨fun ρ => by rw [decide_eq_true (by omega)], trivial⟩ rfl).trans (Reaches.loop 257 ?_))
    exact (i_rounds zs b (k + 1) ⟨h0, by omega⟩ hz 256 0 0 (by omega) (by omega)).trans ih
end Go.Proofs.Ytkoackalpcmhaaa.Am
/- The reference's boxes, reckoned. Conditions: none. -/
namespace Go.Proofs.Ytkoackalpcmhaaa.Am
set_option linter.unusedVariables false
set_option linter.unusedSimpArgs false
open Go Go.RowKit
variable [GT]

omit [GT] in
def gm : Nat → Nat → Nat → Nat → Nat
  | 0, _, _, o => o
  | n + 1, a, b, o => match Nat.beq b 0 with
    | true => o
    | false => gm n (match Nat.ble (2 * a) 255 with | true => 2 * a | false => Nat.xor (2 * a) 283) (b / 2) (match Nat.beq (b % 2) 1 with | true => Nat.xor o a | false => o)
theorem xo_nat {a b : Nat} (ha : a < 512) (hb : b < 512) : xo a b = ((a ^^^ b : Nat) : Int) := by
  have e : xo (a : Int) b = IntKind.i64.wrap ((BitVec.ofInt 64 (a : Int) ^^^ BitVec.ofInt 64 (b : Int)).toNat : Int) := rfl
  have h : (BitVec.ofInt 64 (a : Int) ^^^ BitVec.ofInt 64 (b : Int)).toNat = a ^^^ b := by
    rw [BitVec.toNat_xor, BitVec.toNat_ofInt, BitVec.toNat_ofInt]
    congr 1 <;> omega
  have hx : a ^^^ b < 512 := Nat.xor_lt_two_pow (n := 9) ha hb
  rw [e, h, i64_small (by omega) (by omega)]
theorem d2_nat {a : Nat} (ha : a < 512) : d2 a = ((2 * a : Nat) : Int) := by
  unfold d2
  rw [i64_small (by omega) (by omega)]
  omega
theorem pR_nat : ∀ (n a b o : Nat), a < 256 → b < 512 → o < 512 → pR n a b o = (gm n a b o : Nat)
  | 0, _, _, _, _, _, _ => rfl
  | n + 1, a, b, o, ha, hb, ho => by
    unfold pR gm
    cases h0 : Nat.beq b 0 with
    | true =>
      have := Nat.eq_of_beq_eq_true h0
      subst this
      rw [if_neg (by decide)]
    | false =>
      have hb0 : b ≠ 0 := fun e => by subst e; cases h0
      have e1 : h2 (b : Int) = ((b / 2 : Nat) : Int) := by rw [h2_small (by omega) (by omega)]; omega
      have e2 : (if d2 (a : Int) > 255 then xo (d2 a) 283 else d2 a) = ((match Nat.ble (2 * a) 255 with | true => 2 * a | false => Nat.xor (2 * a) 283 : Nat) : Int) ∧ (match Nat.ble (2 * a) 255 with | true => 2 * a | false => Nat.xor (2 * a) 283 : Nat) < 256 := by
        rw [d2_nat (by omega)]
        cases hle : Nat.ble (2 * a) 255 with
        | true =>
          have := Nat.le_of_ble_eq_true hle
          rw [if_neg (by omega)]
          exact ⟨rfl, show 2 * a < 256 by omega⟩
        | false =>
          have hgt : ¬ 2 * a ≤ 255 := fun h => by rw [Nat.ble_eq_true_of_le h] at hle; cases hle
          rw [if_pos (by omega)]
          have := xo_nat (a := 2 * a) (b := 283) (by omega) (by omega)
          refine ⟨this, ?_⟩
          have key : (List.range 128).all (fun j => Nat.blt (Nat.xor (2 * (128 + j)) 283) 256) = true := by decide +kernel
          rw [List.all_eq_true] at key
          have := key (a - 128) (List.mem_range.2 (by omega))
          rw [show 128 + (a - 128) = a by omega] at this
          exact Nat.le_of_ble_eq_true this
      have e3 : (if ((b : Int).tmod 2 == 1) = true then xo (o : Int) a else (o : Int)) = ((match Nat.beq (b % 2) 1 with | true => Nat.xor o a | false => o : Nat) : Int) ∧ (match Nat.beq (b % 2) 1 with | true => Nat.xor o a | false => o : Nat) < 512 := by
        rw [Int.tmod_eq_emod_of_nonneg (by omega)]
        cases hm : Nat.beq (b % 2) 1 with
        | true =>
          have := Nat.eq_of_beq_eq_true hm
          rw [if_pos (by rw [beq_iff_eq]; omega)]
          exact ⟨xo_nat ho (by omega), Nat.xor_lt_two_pow (n := 9) ho (by omega)⟩
        | false =>
          have : b % 2 ≠ 1 := fun e => by rw [e] at hm; cases hm
          rw [if_neg (by rw [beq_iff_eq]; omega)]
          exact ⟨rfl, ho⟩
      rw [if_pos (by omega), e1, e2.1, e3.1]
      exact pR_nat n _ _ _ e2.2 (by omega) e3.2
omit [GT] in
def inN (b : Nat) : Nat → Nat → Nat → Nat
  | 0, _, nn => nn
  | k + 1, x, nn => match Nat.beq (gm 8 b x 0) 1 with
    | true => inN b k (x + 1) x
    | false => inN b k (x + 1) nn
theorem inF_nat {b : Nat} (hb : b < 256) : ∀ (k x nn : Nat), x + k ≤ 256 → inF b k x nn = (inN b k x nn : Nat)
  | 0, _, _, _ => rfl
  | k + 1, x, nn, h => by
    have e : pT (b : Int) x = (gm 8 b x 0 : Nat) := pR_nat 8 b x 0 hb (by omega) (by omega)
    unfold inF inN
    rw [e]
    cases hm : Nat.beq (gm 8 b x 0) 1 with
    | true =>
      have := Nat.eq_of_beq_eq_true hm
      rw [if_pos (by rw [beq_iff_eq]; omega)]
      exact inF_nat hb k (x + 1) x (by omega)
    | false =>
      have : gm 8 b x 0 ≠ 1 := fun e => by rw [e] at hm; cases hm
      rw [if_neg (by rw [beq_iff_eq]; omega)]
      exact inF_nat hb k (x + 1) nn (by omega)
theorem in0 : (upTo 0 16).all (fun b => decide (boxV (inN b 256 0 0 : Nat) = g2 sbox b)) = true := by decide +kernel
theorem in1 : (upTo 16 16).all (fun b => decide (boxV (inN b 256 0 0 : Nat) = g2 sbox b)) = true := by decide +kernel
theorem in2 : (upTo 32 16).all (fun b => decide (boxV (inN b 256 0 0 : Nat) = g2 sbox b)) = true := by decide +kernel
theorem in3 : (upTo 48 16).all (fun b => decide (boxV (inN b 256 0 0 : Nat) = g2 sbox b)) = true := by decide +kernel
theorem in4 : (upTo 64 16).all (fun b => decide (boxV (inN b 256 0 0 : Nat) = g2 sbox b)) = true := by decide +kernel
theorem in5 : (upTo 80 16).all (fun b => decide (boxV (inN b 256 0 0 : Nat) = g2 sbox b)) = true := by decide +kernel
theorem in6 : (upTo 96 16).all (fun b => decide (boxV (inN b 256 0 0 : Nat) = g2 sbox b)) = true := by decide +kernel
theorem in7 : (upTo 112 16).all (fun b => decide (boxV (inN b 256 0 0 : Nat) = g2 sbox b)) = true := by decide +kernel
theorem in8 : (upTo 128 16).all (fun b => decide (boxV (inN b 256 0 0 : Nat) = g2 sbox b)) = true := by decide +kernel
theorem in9 : (upTo 144 16).all (fun b => decide (boxV (inN b 256 0 0 : Nat) = g2 sbox b)) = true := by decide +kernel
theorem in10 : (upTo 160 16).all (fun b => decide (boxV (inN b 256 0 0 : Nat) = g2 sbox b)) = true := by decide +kernel
theorem in11 : (upTo 176 16).all (fun b => decide (boxV (inN b 256 0 0 : Nat) = g2 sbox b)) = true := by decide +kernel
theorem in12 : (upTo 192 16).all (fun b => decide (boxV (inN b 256 0 0 : Nat) = g2 sbox b)) = true := by decide +kernel
theorem in13 : (upTo 208 16).all (fun b => decide (boxV (inN b 256 0 0 : Nat) = g2 sbox b)) = true := by decide +kernel
theorem in14 : (upTo 224 16).all (fun b => decide (boxV (inN b 256 0 0 : Nat) = g2 sbox b)) = true := by decide +kernel
theorem in15 : (upTo 240 16).all (fun b => decide (boxV (inN b 256 0 0 : Nat) = g2 sbox b)) = true := by decide +kernel
theorem in_all {b : Nat} (hb : b < 256) : boxV (inF b 256 0 0) = g2 sbox b := by
  have e : inF (b : Int) 256 0 0 = (inN b 256 0 0 : Nat) := inF_nat hb 256 0 0 (by omega)
  rw [e]
  have key : ∀ {i : Nat}, (upTo i 16).all (fun b => decide (boxV (inN b 256 0 0 : Nat) = g2 sbox b)) = true → i ≤ b → b < i + 16 → boxV (inN b 256 0 0 : Nat) = g2 sbox b := fun h h1 h2 =>
    of_decide_eq_true (List.all_eq_true.1 h b (mem_upTo.2 ⟨h1, h2⟩))
  obtain ⟨k, hk⟩ : ∃ k, k = b / 16 := ⟨_, rfl⟩
  have hk16 : k < 16 := by omega
  match k, hk16, hk with
  | 0, _, hk => exact key in0 (by omega) (by omega)
  | 1, _, hk => exact key in1 (by omega) (by omega)
  | 2, _, hk => exact key in2 (by omega) (by omega)
  | 3, _, hk => exact key in3 (by omega) (by omega)
  | 4, _, hk => exact key in4 (by omega) (by omega)
  | 5, _, hk => exact key in5 (by omega) (by omega)
  | 6, _, hk => exact key in6 (by omega) (by omega)
  | 7, _, hk => exact key in7 (by omega) (by omega)
  | 8, _, hk => exact key in8 (by omega) (by omega)
  | 9, _, hk => exact key in9 (by omega) (by omega)
  | 10, _, hk => exact key in10 (by omega) (by omega)
  | 11, _, hk => exact key in11 (by omega) (by omega)
  | 12, _, hk => exact key in12 (by omega) (by omega)
  | 13, _, hk => exact key in13 (by omega) (by omega)
  | 14, _, hk => exact key in14 (by omega) (by omega)
  | 15, _, hk => exact key in15 (by omega) (by omega)
  | k + 16, h, _ => exact absurd h (by omega)
/-- The list, filled as far as k. -/
theorem outF_sbox : ∀ (k n : Nat) (zs : List Int), n + k = 256 → zs.length = 256 → (∀ j, j < n → g2 zs j = g2 sbox j) → outF k n zs = sbox
  | 0, n, zs, h, hz, he => by
    have hs : sbox.length = 256 := by decide +kernel
    show zs = sbox
    rw [← keyL_g2 hz, ← keyL_g2 hs]
    exact keyL_congr fun j hj => he j (by omega)
  | k + 1, n, zs, h, hz, he => by
    unfold outF
    have := outF_sbox k (n + 1) (zs.set n (boxV (inF n 256 0 0))) (by omega) (by rw [List.length_set]; exact hz) fun j hj => by
      unfold g2
      rw [List.getD_eq_getElem?_getD, List.getElem?_set]
      by_cases hjn : n = j
      · subst hjn
        rw [if_pos rfl, if_pos (by omega), in_all (by omega)]
        rfl
      · rw [if_neg hjn, ← List.getD_eq_getElem?_getD]
        exact he j (by omega)
    exact this
omit [GT] in
def eBoxes : Ent := fun args _ _ => match args with
  | [] => some { val := .av (.one (.arr .i64 sbox)) }
  | _ => none
theorem boxes_ent : EntOK Try.prog 12 eBoxes := by
  refine ⟨⟨_, Try.func12, by kernel_rfl, by kernel_rfl⟩, fun args G base res hr ha ρ D N M w hG hin hfr => ?_⟩
  unfold eBoxes at hr
  split at hr
  · simp only [Option.some.injEq] at hr
    subst hr
    obtain ⟨c, hc⟩ : ∃ c, Try.f12.body = some c := Option.isSome_iff_exists.1 (by kernel_rfl)
    have hR : Reaches Try.prog 0 [.code c] (start [] 36 [] 0 []) [.fin] (oEnd sbox) :=
      (reach_run tyT_ok oO_ok mixed_ (o_start hc) trivial rfl).trans (Reaches.loop 257 (o_rounds 256 _ 0 (by omega) (Int.le_refl _) (by rw [List.length_replicate]) (outF_sbox 256 0 _ (by omega) (by rw [List.length_replicate]) fun j hj => by omega)))
    exact ent_val (reach_val tyT_ok Try.func12 hc (avs := []) (.inr rfl) hR (v := .av (.one (.arr .i64 sbox))) (by kernel_rfl) (by kernel_rfl) (by kernel_rfl) (fun s hs => by cases hs) (hr_none hG.gwc) ρ) hG rfl rfl rfl
  · cases hr
end Go.Proofs.Ytkoackalpcmhaaa.Am
/- The reference's key words, round by round. Conditions: none. -/
namespace Go.Proofs.Ytkoackalpcmhaaa.Am
set_option linter.unusedVariables false
set_option linter.unusedSimpArgs false
open Go Go.RowKit
variable [GT]

omit [GT] in
noncomputable abbrev fRK : Func := Try.f15
omit [GT] in
def kO : List (Nat × Ent) := [(25, e2I .i64 pT fun _ b => 0 ≤ b ∧ b < 256)]
theorem kO_ok : OOK Try.prog kO := ook_of (l := [(25, e2I .i64 pT fun _ b => 0 ≤ b ∧ b < 256)]) ⟨times_ent, trivial⟩
omit [GT] in
def kS (kb W : Nat → Int) (x : Int) (i : Nat) : St := { tm := tmL 111 [(3, .av (.one (.p 1 0))), (5, .av (.one (.r 2 0 (4 * i) 0))), (7, ofV (.int .i64 x)), (8, ofV (.int .i64 i))], hp := [(0, ⟨2, 0, [.arr .u8 (keyL 32 kb)]⟩), (1, ⟨0, 29, [.arr .i64 sbox]⟩), (2, ⟨1, 3, [.arr .i64 (keyL (4 * i) W)]⟩)], nx := 3, gl := [] }
omit [GT] in
def k0W (kb : Nat → Int) (j : Nat) : Int := IntKind.i64.wrap (kb j)
omit [GT] in
def kT (W : Nat → Int) (x : Int) (i : Nat) : List Int := match i % 8 with
  | 0 => [xo (sb (W (4 * i - 3))) x, sb (W (4 * i - 2)), sb (W (4 * i - 1)), sb (W (4 * i - 4))]
  | 4 => [sb (W (4 * i - 4)), sb (W (4 * i - 3)), sb (W (4 * i - 2)), sb (W (4 * i - 1))]
  | _ => [W (4 * i - 4), W (4 * i - 3), W (4 * i - 2), W (4 * i - 1)]
omit [GT] in
def kW (W : Nat → Int) (x : Int) (i : Nat) : List Int := [xo (W (4 * i - 32)) (g2 (kT W x i) 0), xo (W (4 * i - 31)) (g2 (kT W x i) 1), xo (W (4 * i - 30)) (g2 (kT W x i) 2), xo (W (4 * i - 29)) (g2 (kT W x i) 3)]
omit [GT] in
def kX (x : Int) (i : Nat) : Int := match i % 8 with
  | 0 => pT x 2
  | _ => x
omit [GT] in
def kP0 (W : Nat → Int) (i : Nat) : List Prop := [inR (W (4 * i - 3)), (W (4 * i - 3)).toNat < sbox.length, inR (W (4 * i - 2)), (W (4 * i - 2)).toNat < sbox.length, inR (W (4 * i - 1)), (W (4 * i - 1)).toNat < sbox.length, inR (W (4 * i - 4)), (W (4 * i - 4)).toNat < sbox.length, (0 : Int) ≤ 2 ∧ (2 : Int) < 256]
omit [GT] in
def kP4 (W : Nat → Int) (i : Nat) : List Prop := rP (W (4 * i - 4)) ++ (rP (W (4 * i - 3)) ++ (rP (W (4 * i - 2)) ++ rP (W (4 * i - 1))))
omit [GT] in
def kP1 (W : Nat → Int) (i : Nat) : List Prop := []
omit [GT] in
def kH0 : Nat → Nat → Hint := atH 13 3 symH (atH 13 4 symH (atH 13 10 symH (atH 13 11 symH (atH 13 15 symH (atH 13 16 symH (atH 13 20 symH (atH 13 21 symH noH)))))))
omit [GT] in
def kH : Nat → Nat → Hint := atH 16 3 symH (atH 16 4 symH (atH 16 8 symH (atH 16 9 symH (atH 16 13 symH (atH 16 14 symH (atH 16 18 symH (atH 16 19 symH kH0)))))))
omit [GT] in
def kM (kb W : Nat → Int) (x : Int) (i : Nat) (a b c d : Int) : St := { tm := tmL 111 [(3, .av (.one (.p 1 0))), (5, .av (.one (.r 2 0 (4 * i) 0))), (7, ofV (.int .i64 x)), (8, ofV (.int .i64 i)), (9, .av (.one (.s 3 0 4 4))), (10, ofV (.int .i64 0))], hp := [(0, ⟨2, 0, [.arr .u8 (keyL 32 kb)]⟩), (1, ⟨0, 29, [.arr .i64 sbox]⟩), (2, ⟨1, 3, [.arr .i64 (keyL (4 * i) W)]⟩), (3, ⟨0, 3, [.v (.int .i64 a), .v (.int .i64 b), .v (.int .i64 c), .v (.int .i64 d)]⟩)], nx := 4, gl := [] }
omit [GT] in
theorem k_start (kb : Nat → Int) : runF tyT kO noH [(3, 33)] 2 [65] [3, 5, 7, 8] fRK (canA [.sl .u8 (keyL 32 kb), .ag .i64 sbox] 0) (canH [.sl .u8 (keyL 32 kb), .ag .i64 sbox] 0 ++ gH [] 1) 1 [] = some (toAt fRK 9 [], kS kb (k0W kb) 1 8, []) := by kernel_rfl
omit [GT] in
theorem k_roundA8 (kb W : Nat → Int) (x : Int) (n : Nat) : runN tyT kO kH [] 2000 2 [2, 93] [3, 5, 7, 8, 9, 10] (inAt fRK 9 [] n) (kS kb W x 8) = some (toAt fRK 18 [n], kM kb W (pT x 2) 8 (g2 (kT W x 8) 0) (g2 (kT W x 8) 1) (g2 (kT W x 8) 2) (g2 (kT W x 8) 3), kP0 W 8) := by kernel_rfl
omit [GT] in
theorem k_roundB8 (kb W : Nat → Int) (x a b c d : Int) (n : Nat) : runN tyT kO noH [(18, 5)] 2000 2 [247] [3, 5, 7, 8] (toAt fRK 18 [n]) (kM kb W x 8 a b c d) = some (hdAt fRK 9 [] n, kS kb (updW W 8 [xo (W (4 * 8 - 32)) a, xo (W (4 * 8 - 31)) b, xo (W (4 * 8 - 30)) c, xo (W (4 * 8 - 29)) d]) x 9, []) := by kernel_rfl
omit [GT] in
theorem k_round9 (kb W : Nat → Int) (x : Int) (n : Nat) : runN tyT kO kH [(18, 5)] 2000 2 [248] [3, 5, 7, 8] (inAt fRK 9 [] n) (kS kb W x 9) = some (hdAt fRK 9 [] n, kS kb (updW W 9 (kW W x 9)) (kX x 9) 10, kP1 W 9) := by kernel_rfl
omit [GT] in
theorem k_round10 (kb W : Nat → Int) (x : Int) (n : Nat) : runN tyT kO kH [(18, 5)] 2000 2 [248] [3, 5, 7, 8] (inAt fRK 9 [] n) (kS kb W x 10) = some (hdAt fRK 9 [] n, kS kb (updW W 10 (kW W x 10)) (kX x 10) 11, kP1 W 10) := by kernel_rfl
omit [GT] in
theorem k_round11 (kb W : Nat → Int) (x : Int) (n : Nat) : runN tyT kO kH [(18, 5)] 2000 2 [248] [3, 5, 7, 8] (inAt fRK 9 [] n) (kS kb W x 11) = some (hdAt fRK 9 [] n, kS kb (updW W 11 (kW W x 11)) (kX x 11) 12, kP1 W 11) := by kernel_rfl
omit [GT] in
theorem k_round12 (kb W : Nat → Int) (x : Int) (n : Nat) : runN tyT kO kH [(18, 5)] 2000 2 [336] [3, 5, 7, 8] (inAt fRK 9 [] n) (kS kb W x 12) = some (hdAt fRK 9 [] n, kS kb (updW W 12 (kW W x 12)) (kX x 12) 13, kP4 W 12) := by kernel_rfl
omit [GT] in
theorem k_round13 (kb W : Nat → Int) (x : Int) (n : Nat) : runN tyT kO kH [(18, 5)] 2000 2 [248] [3, 5, 7, 8] (inAt fRK 9 [] n) (kS kb W x 13) = some (hdAt fRK 9 [] n, kS kb (updW W 13 (kW W x 13)) (kX x 13) 14, kP1 W 13) := by kernel_rfl
omit [GT] in
theorem k_round14 (kb W : Nat → Int) (x : Int) (n : Nat) : runN tyT kO kH [(18, 5)] 2000 2 [248] [3, 5, 7, 8] (inAt fRK 9 [] n) (kS kb W x 14) = some (hdAt fRK 9 [] n, kS kb (updW W 14 (kW W x 14)) (kX x 14) 15, kP1 W 14) := by kernel_rfl
omit [GT] in
theorem k_round15 (kb W : Nat → Int) (x : Int) (n : Nat) : runN tyT kO kH [(18, 5)] 2000 2 [248] [3, 5, 7, 8] (inAt fRK 9 [] n) (kS kb W x 15) = some (hdAt fRK 9 [] n, kS kb (updW W 15 (kW W x 15)) (kX x 15) 16, kP1 W 15) := by kernel_rfl
omit [GT] in
theorem k_roundA16 (kb W : Nat → Int) (x : Int) (n : Nat) : runN tyT kO kH [] 2000 2 [2, 93] [3, 5, 7, 8, 9, 10] (inAt fRK 9 [] n) (kS kb W x 16) = some (toAt fRK 18 [n], kM kb W (pT x 2) 16 (g2 (kT W x 16) 0) (g2 (kT W x 16) 1) (g2 (kT W x 16) 2) (g2 (kT W x 16) 3), kP0 W 16) := by kernel_rfl
omit [GT] in
theorem k_roundB16 (kb W : Nat → Int) (x a b c d : Int) (n : Nat) : runN tyT kO noH [(18, 5)] 2000 2 [247] [3, 5, 7, 8] (toAt fRK 18 [n]) (kM kb W x 16 a b c d) = some (hdAt fRK 9 [] n, kS kb (updW W 16 [xo (W (4 * 16 - 32)) a, xo (W (4 * 16 - 31)) b, xo (W (4 * 16 - 30)) c, xo (W (4 * 16 - 29)) d]) x 17, []) := by kernel_rfl
omit [GT] in
theorem k_round17 (kb W : Nat → Int) (x : Int) (n : Nat) : runN tyT kO kH [(18, 5)] 2000 2 [248] [3, 5, 7, 8] (inAt fRK 9 [] n) (kS kb W x 17) = some (hdAt fRK 9 [] n, kS kb (updW W 17 (kW W x 17)) (kX x 17) 18, kP1 W 17) := by kernel_rfl
omit [GT] in
theorem k_round18 (kb W : Nat → Int) (x : Int) (n : Nat) : runN tyT kO kH [(18, 5)] 2000 2 [248] [3, 5, 7, 8] (inAt fRK 9 [] n) (kS kb W x 18) = some (hdAt fRK 9 [] n, kS kb (updW W 18 (kW W x 18)) (kX x 18) 19, kP1 W 18) := by kernel_rfl
omit [GT] in
theorem k_round19 (kb W : Nat → Int) (x : Int) (n : Nat) : runN tyT kO kH [(18, 5)] 2000 2 [248] [3, 5, 7, 8] (inAt fRK 9 [] n) (kS kb W x 19) = some (hdAt fRK 9 [] n, kS kb (updW W 19 (kW W x 19)) (kX x 19) 20, kP1 W 19) := by kernel_rfl
omit [GT] in
theorem k_round20 (kb W : Nat → Int) (x : Int) (n : Nat) : runN tyT kO kH [(18, 5)] 2000 2 [336] [3, 5, 7, 8] (inAt fRK 9 [] n) (kS kb W x 20) = some (hdAt fRK 9 [] n, kS kb (updW W 20 (kW W x 20)) (kX x 20) 21, kP4 W 20) := by kernel_rfl
omit [GT] in
theorem k_round21 (kb W : Nat → Int) (x : Int) (n : Nat) : runN tyT kO kH [(18, 5)] 2000 2 [248] [3, 5, 7, 8] (inAt fRK 9 [] n) (kS kb W x 21) = some (hdAt fRK 9 [] n, kS kb (updW W 21 (kW W x 21)) (kX x 21) 22, kP1 W 21) := by kernel_rfl
omit [GT] in
theorem k_round22 (kb W : Nat → Int) (x : Int) (n : Nat) : runN tyT kO kH [(18, 5)] 2000 2 [248] [3, 5, 7, 8] (inAt fRK 9 [] n) (kS kb W x 22) = some (hdAt fRK 9 [] n, kS kb (updW W 22 (kW W x 22)) (kX x 22) 23, kP1 W 22) := by kernel_rfl
omit [GT] in
theorem k_round23 (kb W : Nat → Int) (x : Int) (n : Nat) : runN tyT kO kH [(18, 5)] 2000 2 [248] [3, 5, 7, 8] (inAt fRK 9 [] n) (kS kb W x 23) = some (hdAt fRK 9 [] n, kS kb (updW W 23 (kW W x 23)) (kX x 23) 24, kP1 W 23) := by kernel_rfl
omit [GT] in
theorem k_roundA24 (kb W : Nat → Int) (x : Int) (n : Nat) : runN tyT kO kH [] 2000 2 [2, 93] [3, 5, 7, 8, 9, 10] (inAt fRK 9 [] n) (kS kb W x 24) = some (toAt fRK 18 [n], kM kb W (pT x 2) 24 (g2 (kT W x 24) 0) (g2 (kT W x 24) 1) (g2 (kT W x 24) 2) (g2 (kT W x 24) 3), kP0 W 24) := by kernel_rfl
omit [GT] in
theorem k_roundB24 (kb W : Nat → Int) (x a b c d : Int) (n : Nat) : runN tyT kO noH [(18, 5)] 2000 2 [247] [3, 5, 7, 8] (toAt fRK 18 [n]) (kM kb W x 24 a b c d) = some (hdAt fRK 9 [] n, kS kb (updW W 24 [xo (W (4 * 24 - 32)) a, xo (W (4 * 24 - 31)) b, xo (W (4 * 24 - 30)) c, xo (W (4 * 24 - 29)) d]) x 25, []) := by kernel_rfl
omit [GT] in
theorem k_round25 (kb W : Nat → Int) (x : Int) (n : Nat) : runN tyT kO kH [(18, 5)] 2000 2 [248] [3, 5, 7, 8] (inAt fRK 9 [] n) (kS kb W x 25) = some (hdAt fRK 9 [] n, kS kb (updW W 25 (kW W x 25)) (kX x 25) 26, kP1 W 25) := by kernel_rfl
omit [GT] in
theorem k_round26 (kb W : Nat → Int) (x : Int) (n : Nat) : runN tyT kO kH [(18, 5)] 2000 2 [248] [3, 5, 7, 8] (inAt fRK 9 [] n) (kS kb W x 26) = some (hdAt fRK 9 [] n, kS kb (updW W 26 (kW W x 26)) (kX x 26) 27, kP1 W 26) := by kernel_rfl
omit [GT] in
theorem k_round27 (kb W : Nat → Int) (x : Int) (n : Nat) : runN tyT kO kH [(18, 5)] 2000 2 [248] [3, 5, 7, 8] (inAt fRK 9 [] n) (kS kb W x 27) = some (hdAt fRK 9 [] n, kS kb (updW W 27 (kW W x 27)) (kX x 27) 28, kP1 W 27) := by kernel_rfl
omit [GT] in
theorem k_round28 (kb W : Nat → Int) (x : Int) (n : Nat) : runN tyT kO kH [(18, 5)] 2000 2 [336] [3, 5, 7, 8] (inAt fRK 9 [] n) (kS kb W x 28) = some (hdAt fRK 9 [] n, kS kb (updW W 28 (kW W x 28)) (kX x 28) 29, kP4 W 28) := by kernel_rfl
omit [GT] in
theorem k_round29 (kb W : Nat → Int) (x : Int) (n : Nat) : runN tyT kO kH [(18, 5)] 2000 2 [248] [3, 5, 7, 8] (inAt fRK 9 [] n) (kS kb W x 29) = some (hdAt fRK 9 [] n, kS kb (updW W 29 (kW W x 29)) (kX x 29) 30, kP1 W 29) := by kernel_rfl
omit [GT] in
theorem k_round30 (kb W : Nat → Int) (x : Int) (n : Nat) : runN tyT kO kH [(18, 5)] 2000 2 [248] [3, 5, 7, 8] (inAt fRK 9 [] n) (kS kb W x 30) = some (hdAt fRK 9 [] n, kS kb (updW W 30 (kW W x 30)) (kX x 30) 31, kP1 W 30) := by kernel_rfl
omit [GT] in
theorem k_round31 (kb W : Nat → Int) (x : Int) (n : Nat) : runN tyT kO kH [(18, 5)] 2000 2 [248] [3, 5, 7, 8] (inAt fRK 9 [] n) (kS kb W x 31) = some (hdAt fRK 9 [] n, kS kb (updW W 31 (kW W x 31)) (kX x 31) 32, kP1 W 31) := by kernel_rfl
omit [GT] in
theorem k_roundA32 (kb W : Nat → Int) (x : Int) (n : Nat) : runN tyT kO kH [] 2000 2 [2, 93] [3, 5, 7, 8, 9, 10] (inAt fRK 9 [] n) (kS kb W x 32) = some (toAt fRK 18 [n], kM kb W (pT x 2) 32 (g2 (kT W x 32) 0) (g2 (kT W x 32) 1) (g2 (kT W x 32) 2) (g2 (kT W x 32) 3), kP0 W 32) := by kernel_rfl
omit [GT] in
theorem k_roundB32 (kb W : Nat → Int) (x a b c d : Int) (n : Nat) : runN tyT kO noH [(18, 5)] 2000 2 [247] [3, 5, 7, 8] (toAt fRK 18 [n]) (kM kb W x 32 a b c d) = some (hdAt fRK 9 [] n, kS kb (updW W 32 [xo (W (4 * 32 - 32)) a, xo (W (4 * 32 - 31)) b, xo (W (4 * 32 - 30)) c, xo (W (4 * 32 - 29)) d]) x 33, []) := by kernel_rfl
omit [GT] in
theorem k_round33 (kb W : Nat → Int) (x : Int) (n : Nat) : runN tyT kO kH [(18, 5)] 2000 2 [248] [3, 5, 7, 8] (inAt fRK 9 [] n) (kS kb W x 33) = some (hdAt fRK 9 [] n, kS kb (updW W 33 (kW W x 33)) (kX x 33) 34, kP1 W 33) := by kernel_rfl
omit [GT] in
theorem k_round34 (kb W : Nat → Int) (x : Int) (n : Nat) : runN tyT kO kH [(18, 5)] 2000 2 [248] [3, 5, 7, 8] (inAt fRK 9 [] n) (kS kb W x 34) = some (hdAt fRK 9 [] n, kS kb (updW W 34 (kW W x 34)) (kX x 34) 35, kP1 W 34) := by kernel_rfl
omit [GT] in
theorem k_round35 (kb W : Nat → Int) (x : Int) (n : Nat) : runN tyT kO kH [(18, 5)] 2000 2 [248] [3, 5, 7, 8] (inAt fRK 9 [] n) (kS kb W x 35) = some (hdAt fRK 9 [] n, kS kb (updW W 35 (kW W x 35)) (kX x 35) 36, kP1 W 35) := by kernel_rfl
omit [GT] in
theorem k_round36 (kb W : Nat → Int) (x : Int) (n : Nat) : runN tyT kO kH [(18, 5)] 2000 2 [336] [3, 5, 7, 8] (inAt fRK 9 [] n) (kS kb W x 36) = some (hdAt fRK 9 [] n, kS kb (updW W 36 (kW W x 36)) (kX x 36) 37, kP4 W 36) := by kernel_rfl
omit [GT] in
theorem k_round37 (kb W : Nat → Int) (x : Int) (n : Nat) : runN tyT kO kH [(18, 5)] 2000 2 [248] [3, 5, 7, 8] (inAt fRK 9 [] n) (kS kb W x 37) = some (hdAt fRK 9 [] n, kS kb (updW W 37 (kW W x 37)) (kX x 37) 38, kP1 W 37) := by kernel_rfl
omit [GT] in
theorem k_round38 (kb W : Nat → Int) (x : Int) (n : Nat) : runN tyT kO kH [(18, 5)] 2000 2 [248] [3, 5, 7, 8] (inAt fRK 9 [] n) (kS kb W x 38) = some (hdAt fRK 9 [] n, kS kb (updW W 38 (kW W x 38)) (kX x 38) 39, kP1 W 38) := by kernel_rfl
omit [GT] in
theorem k_round39 (kb W : Nat → Int) (x : Int) (n : Nat) : runN tyT kO kH [(18, 5)] 2000 2 [248] [3, 5, 7, 8] (inAt fRK 9 [] n) (kS kb W x 39) = some (hdAt fRK 9 [] n, kS kb (updW W 39 (kW W x 39)) (kX x 39) 40, kP1 W 39) := by kernel_rfl
omit [GT] in
theorem k_roundA40 (kb W : Nat → Int) (x : Int) (n : Nat) : runN tyT kO kH [] 2000 2 [2, 93] [3, 5, 7, 8, 9, 10] (inAt fRK 9 [] n) (kS kb W x 40) = some (toAt fRK 18 [n], kM kb W (pT x 2) 40 (g2 (kT W x 40) 0) (g2 (kT W x 40) 1) (g2 (kT W x 40) 2) (g2 (kT W x 40) 3), kP0 W 40) := by kernel_rfl
omit [GT] in
theorem k_roundB40 (kb W : Nat → Int) (x a b c d : Int) (n : Nat) : runN tyT kO noH [(18, 5)] 2000 2 [247] [3, 5, 7, 8] (toAt fRK 18 [n]) (kM kb W x 40 a b c d) = some (hdAt fRK 9 [] n, kS kb (updW W 40 [xo (W (4 * 40 - 32)) a, xo (W (4 * 40 - 31)) b, xo (W (4 * 40 - 30)) c, xo (W (4 * 40 - 29)) d]) x 41, []) := by kernel_rfl
omit [GT] in
theorem k_round41 (kb W : Nat → Int) (x : Int) (n : Nat) : runN tyT kO kH [(18, 5)] 2000 2 [248] [3, 5, 7, 8] (inAt fRK 9 [] n) (kS kb W x 41) = some (hdAt fRK 9 [] n, kS kb (updW W 41 (kW W x 41)) (kX x 41) 42, kP1 W 41) := by kernel_rfl
omit [GT] in
theorem k_round42 (kb W : Nat → Int) (x : Int) (n : Nat) : runN tyT kO kH [(18, 5)] 2000 2 [248] [3, 5, 7, 8] (inAt fRK 9 [] n) (kS kb W x 42) = some (hdAt fRK 9 [] n, kS kb (updW W 42 (kW W x 42)) (kX x 42) 43, kP1 W 42) := by kernel_rfl
omit [GT] in
theorem k_round43 (kb W : Nat → Int) (x : Int) (n : Nat) : runN tyT kO kH [(18, 5)] 2000 2 [248] [3, 5, 7, 8] (inAt fRK 9 [] n) (kS kb W x 43) = some (hdAt fRK 9 [] n, kS kb (updW W 43 (kW W x 43)) (kX x 43) 44, kP1 W 43) := by kernel_rfl
omit [GT] in
theorem k_round44 (kb W : Nat → Int) (x : Int) (n : Nat) : runN tyT kO kH [(18, 5)] 2000 2 [336] [3, 5, 7, 8] (inAt fRK 9 [] n) (kS kb W x 44) = some (hdAt fRK 9 [] n, kS kb (updW W 44 (kW W x 44)) (kX x 44) 45, kP4 W 44) := by kernel_rfl
omit [GT] in
theorem k_round45 (kb W : Nat → Int) (x : Int) (n : Nat) : runN tyT kO kH [(18, 5)] 2000 2 [248] [3, 5, 7, 8] (inAt fRK 9 [] n) (kS kb W x 45) = some (hdAt fRK 9 [] n, kS kb (updW W 45 (kW W x 45)) (kX x 45) 46, kP1 W 45) := by kernel_rfl
omit [GT] in
theorem k_round46 (kb W : Nat → Int) (x : Int) (n : Nat) : runN tyT kO kH [(18, 5)] 2000 2 [248] [3, 5, 7, 8] (inAt fRK 9 [] n) (kS kb W x 46) = some (hdAt fRK 9 [] n, kS kb (updW W 46 (kW W x 46)) (kX x 46) 47, kP1 W 46) := by kernel_rfl
omit [GT] in
theorem k_round47 (kb W : Nat → Int) (x : Int) (n : Nat) : runN tyT kO kH [(18, 5)] 2000 2 [248] [3, 5, 7, 8] (inAt fRK 9 [] n) (kS kb W x 47) = some (hdAt fRK 9 [] n, kS kb (updW W 47 (kW W x 47)) (kX x 47) 48, kP1 W 47) := by kernel_rfl
omit [GT] in
theorem k_roundA48 (kb W : Nat → Int) (x : Int) (n : Nat) : runN tyT kO kH [] 2000 2 [2, 93] [3, 5, 7, 8, 9, 10] (inAt fRK 9 [] n) (kS kb W x 48) = some (toAt fRK 18 [n], kM kb W (pT x 2) 48 (g2 (kT W x 48) 0) (g2 (kT W x 48) 1) (g2 (kT W x 48) 2) (g2 (kT W x 48) 3), kP0 W 48) := by kernel_rfl
omit [GT] in
theorem k_roundB48 (kb W : Nat → Int) (x a b c d : Int) (n : Nat) : runN tyT kO noH [(18, 5)] 2000 2 [247] [3, 5, 7, 8] (toAt fRK 18 [n]) (kM kb W x 48 a b c d) = some (hdAt fRK 9 [] n, kS kb (updW W 48 [xo (W (4 * 48 - 32)) a, xo (W (4 * 48 - 31)) b, xo (W (4 * 48 - 30)) c, xo (W (4 * 48 - 29)) d]) x 49, []) := by kernel_rfl
omit [GT] in
theorem k_round49 (kb W : Nat → Int) (x : Int) (n : Nat) : runN tyT kO kH [(18, 5)] 2000 2 [248] [3, 5, 7, 8] (inAt fRK 9 [] n) (kS kb W x 49) = some (hdAt fRK 9 [] n, kS kb (updW W 49 (kW W x 49)) (kX x 49) 50, kP1 W 49) := by kernel_rfl
omit [GT] in
theorem k_round50 (kb W : Nat → Int) (x : Int) (n : Nat) : runN tyT kO kH [(18, 5)] 2000 2 [248] [3, 5, 7, 8] (inAt fRK 9 [] n) (kS kb W x 50) = some (hdAt fRK 9 [] n, kS kb (updW W 50 (kW W x 50)) (kX x 50) 51, kP1 W 50) := by kernel_rfl
omit [GT] in
theorem k_round51 (kb W : Nat → Int) (x : Int) (n : Nat) : runN tyT kO kH [(18, 5)] 2000 2 [248] [3, 5, 7, 8] (inAt fRK 9 [] n) (kS kb W x 51) = some (hdAt fRK 9 [] n, kS kb (updW W 51 (kW W x 51)) (kX x 51) 52, kP1 W 51) := by kernel_rfl
omit [GT] in
theorem k_round52 (kb W : Nat → Int) (x : Int) (n : Nat) : runN tyT kO kH [(18, 5)] 2000 2 [336] [3, 5, 7, 8] (inAt fRK 9 [] n) (kS kb W x 52) = some (hdAt fRK 9 [] n, kS kb (updW W 52 (kW W x 52)) (kX x 52) 53, kP4 W 52) := by kernel_rfl
omit [GT] in
theorem k_round53 (kb W : Nat → Int) (x : Int) (n : Nat) : runN tyT kO kH [(18, 5)] 2000 2 [248] [3, 5, 7, 8] (inAt fRK 9 [] n) (kS kb W x 53) = some (hdAt fRK 9 [] n, kS kb (updW W 53 (kW W x 53)) (kX x 53) 54, kP1 W 53) := by kernel_rfl
omit [GT] in
theorem k_round54 (kb W : Nat → Int) (x : Int) (n : Nat) : runN tyT kO kH [(18, 5)] 2000 2 [248] [3, 5, 7, 8] (inAt fRK 9 [] n) (kS kb W x 54) = some (hdAt fRK 9 [] n, kS kb (updW W 54 (kW W x 54)) (kX x 54) 55, kP1 W 54) := by kernel_rfl
omit [GT] in
theorem k_round55 (kb W : Nat → Int) (x : Int) (n : Nat) : runN tyT kO kH [(18, 5)] 2000 2 [248] [3, 5, 7, 8] (inAt fRK 9 [] n) (kS kb W x 55) = some (hdAt fRK 9 [] n, kS kb (updW W 55 (kW W x 55)) (kX x 55) 56, kP1 W 55) := by kernel_rfl
omit [GT] in
theorem k_roundA56 (kb W : Nat → Int) (x : Int) (n : Nat) : runN tyT kO kH [] 2000 2 [2, 93] [3, 5, 7, 8, 9, 10] (inAt fRK 9 [] n) (kS kb W x 56) = some (toAt fRK 18 [n], kM kb W (pT x 2) 56 (g2 (kT W x 56) 0) (g2 (kT W x 56) 1) (g2 (kT W x 56) 2) (g2 (kT W x 56) 3), kP0 W 56) := by kernel_rfl
omit [GT] in
theorem k_roundB56 (kb W : Nat → Int) (x a b c d : Int) (n : Nat) : runN tyT kO noH [(18, 5)] 2000 2 [247] [3, 5, 7, 8] (toAt fRK 18 [n]) (kM kb W x 56 a b c d) = some (hdAt fRK 9 [] n, kS kb (updW W 56 [xo (W (4 * 56 - 32)) a, xo (W (4 * 56 - 31)) b, xo (W (4 * 56 - 30)) c, xo (W (4 * 56 - 29)) d]) x 57, []) := by kernel_rfl
omit [GT] in
theorem k_round57 (kb W : Nat → Int) (x : Int) (n : Nat) : runN tyT kO kH [(18, 5)] 2000 2 [248] [3, 5, 7, 8] (inAt fRK 9 [] n) (kS kb W x 57) = some (hdAt fRK 9 [] n, kS kb (updW W 57 (kW W x 57)) (kX x 57) 58, kP1 W 57) := by kernel_rfl
omit [GT] in
theorem k_round58 (kb W : Nat → Int) (x : Int) (n : Nat) : runN tyT kO kH [(18, 5)] 2000 2 [248] [3, 5, 7, 8] (inAt fRK 9 [] n) (kS kb W x 58) = some (hdAt fRK 9 [] n, kS kb (updW W 58 (kW W x 58)) (kX x 58) 59, kP1 W 58) := by kernel_rfl
omit [GT] in
theorem k_round59 (kb W : Nat → Int) (x : Int) (n : Nat) : runN tyT kO kH [(18, 5)] 2000 2 [248] [3, 5, 7, 8] (inAt fRK 9 [] n) (kS kb W x 59) = some (hdAt fRK 9 [] n, kS kb (updW W 59 (kW W x 59)) (kX x 59) 60, kP1 W 59) := by kernel_rfl
omit [GT] in
def kEnd (kb W : Nat → Int) : St := { tm := tmL 111 [(4, .av (.one (.r 2 0 240 0)))], hp := [(0, ⟨2, 0, [.arr .u8 (keyL 32 kb)]⟩), (1, ⟨0, 29, [.arr .i64 sbox]⟩), (2, ⟨1, 3, [.arr .i64 (keyL 240 W)]⟩)], nx := 3, gl := [] }
omit [GT] in
theorem k_end (kb W : Nat → Int) (x : Int) (n : Nat) : runN tyT kO noH [] 2000 2 [2] [4] (inAt fRK 9 [] n) (kS kb W x 60) = some ([.fin], kEnd kb W, []) := by kernel_rfl
end Go.Proofs.Ytkoackalpcmhaaa.Am
/- The reference's block, round by round. Conditions: none. -/
namespace Go.Proofs.Ytkoackalpcmhaaa.Am
set_option linter.unusedVariables false
set_option linter.unusedSimpArgs false
open Go Go.RowKit
variable [GT]

omit [GT] in
noncomputable abbrev fRB : Func := Try.f14
omit [GT] in
def rbS (W S : Nat → Int) (r : Nat) : St := { tm := tmL 127 [(0, .av (.one (.r 0 0 240 0))), (4, .av (.one (.p 1 0))), (6, .av (.one (.p 2 0))), (7, .av (.one (.p 3 0))), (9, ofV (.int .i64 r))], hp := [(0, ⟨2, 0, [.arr .i64 (keyL 240 W)]⟩), (1, ⟨0, 29, [.arr .i64 sbox]⟩), (2, ⟨0, 23, [.arr .u8 (List.replicate 16 0)]⟩), (3, ⟨0, 62, [.arr .i64 (keyL 16 S)]⟩)], nx := 4, gl := [] }
omit [GT] in
def rb0 (W bf : Nat → Int) (j : Nat) : Int := xo (IntKind.i64.wrap (bf j)) (W j)
omit [GT] in
def rbT (S : Nat → Int) (j : Nat) : Int := sb (S ((j + 4 * (j % 4)) % 16))
omit [GT] in
def rbV (S : Nat → Int) (j : Nat) : Int := xo (xo (xo (pT (rbT S j) 2) (pT (rbT S (4 * (j / 4) + (j % 4 + 1) % 4)) 3)) (rbT S (4 * (j / 4) + (j % 4 + 2) % 4))) (rbT S (4 * (j / 4) + (j % 4 + 3) % 4))
omit [GT] in
def rbR (W S : Nat → Int) (r j : Nat) : Int := xo (rbV S j) (W (16 * r + j))
omit [GT] in
def rbL (W S : Nat → Int) (j : Nat) : Int := xo (rbT S j) (W (16 * 14 + j))
omit [GT] in
def rbQ (S : Nat → Int) : Nat → Nat → List Prop
  | _, 0 => []
  | j, n + 1 => inR (S ((j + 4 * (j % 4)) % 16)) :: ((S ((j + 4 * (j % 4)) % 16)).toNat < sbox.length) :: rbQ S (j + 1) n
omit [GT] in
def rbU : Nat → List Prop
  | 0 => []
  | n + 1 => ((0 : Int) ≤ 2 ∧ (2 : Int) < 256) :: ((0 : Int) ≤ 3 ∧ (3 : Int) < 256) :: rbU n
omit [GT] in
def rbP (S : Nat → Int) (n : Nat) : List Prop := rbQ S 0 16 ++ rbU n
omit [GT] in
def rbLH : List (Nat × Nat) := [(12, 17), (17, 5), (20, 5)]
omit [GT] in
def rbH : Nat → Nat → Hint := atH 14 9 symH (atH 14 10 symH noH)
omit [GT] in
theorem rb_start (W bf : Nat → Int) : runF tyT kO noH [(3, 17)] 1 [1, 3, 4] [0, 4, 6, 7, 9] fRB (canA [.sl .i64 (keyL 240 W), .ag .i64 sbox, .ag .u8 (keyL 16 bf)] 0) (canH [.sl .i64 (keyL 240 W), .ag .i64 sbox, .ag .u8 (keyL 16 bf)] 0 ++ gH [] 1) 1 [] = some (toAt fRB 8 [], rbS W (rb0 W bf) 1, []) := by kernel_rfl
omit [GT] in
theorem rb_round1 (W S : Nat → Int) (n : Nat) : runN tyT kO rbH rbLH 5000 4 [] [0, 4, 6, 7, 9] (inAt fRB 8 [] n) (rbS W S 1) = some (hdAt fRB 8 [] n, rbS W (rbR W S 1) 2, rbP S 16) := by kernel_rfl
omit [GT] in
theorem rb_round2 (W S : Nat → Int) (n : Nat) : runN tyT kO rbH rbLH 5000 4 [] [0, 4, 6, 7, 9] (inAt fRB 8 [] n) (rbS W S 2) = some (hdAt fRB 8 [] n, rbS W (rbR W S 2) 3, rbP S 16) := by kernel_rfl
omit [GT] in
theorem rb_round3 (W S : Nat → Int) (n : Nat) : runN tyT kO rbH rbLH 5000 4 [] [0, 4, 6, 7, 9] (inAt fRB 8 [] n) (rbS W S 3) = some (hdAt fRB 8 [] n, rbS W (rbR W S 3) 4, rbP S 16) := by kernel_rfl
omit [GT] in
theorem rb_round4 (W S : Nat → Int) (n : Nat) : runN tyT kO rbH rbLH 5000 4 [] [0, 4, 6, 7, 9] (inAt fRB 8 [] n) (rbS W S 4) = some (hdAt fRB 8 [] n, rbS W (rbR W S 4) 5, rbP S 16) := by kernel_rfl
omit [GT] in
theorem rb_round5 (W S : Nat → Int) (n : Nat) : runN tyT kO rbH rbLH 5000 4 [] [0, 4, 6, 7, 9] (inAt fRB 8 [] n) (rbS W S 5) = some (hdAt fRB 8 [] n, rbS W (rbR W S 5) 6, rbP S 16) := by kernel_rfl
omit [GT] in
theorem rb_round6 (W S : Nat → Int) (n : Nat) : runN tyT kO rbH rbLH 5000 4 [] [0, 4, 6, 7, 9] (inAt fRB 8 [] n) (rbS W S 6) = some (hdAt fRB 8 [] n, rbS W (rbR W S 6) 7, rbP S 16) := by kernel_rfl
omit [GT] in
theorem rb_round7 (W S : Nat → Int) (n : Nat) : runN tyT kO rbH rbLH 5000 4 [] [0, 4, 6, 7, 9] (inAt fRB 8 [] n) (rbS W S 7) = some (hdAt fRB 8 [] n, rbS W (rbR W S 7) 8, rbP S 16) := by kernel_rfl
omit [GT] in
theorem rb_round8 (W S : Nat → Int) (n : Nat) : runN tyT kO rbH rbLH 5000 4 [] [0, 4, 6, 7, 9] (inAt fRB 8 [] n) (rbS W S 8) = some (hdAt fRB 8 [] n, rbS W (rbR W S 8) 9, rbP S 16) := by kernel_rfl
omit [GT] in
theorem rb_round9 (W S : Nat → Int) (n : Nat) : runN tyT kO rbH rbLH 5000 4 [] [0, 4, 6, 7, 9] (inAt fRB 8 [] n) (rbS W S 9) = some (hdAt fRB 8 [] n, rbS W (rbR W S 9) 10, rbP S 16) := by kernel_rfl
omit [GT] in
theorem rb_round10 (W S : Nat → Int) (n : Nat) : runN tyT kO rbH rbLH 5000 4 [] [0, 4, 6, 7, 9] (inAt fRB 8 [] n) (rbS W S 10) = some (hdAt fRB 8 [] n, rbS W (rbR W S 10) 11, rbP S 16) := by kernel_rfl
omit [GT] in
theorem rb_round11 (W S : Nat → Int) (n : Nat) : runN tyT kO rbH rbLH 5000 4 [] [0, 4, 6, 7, 9] (inAt fRB 8 [] n) (rbS W S 11) = some (hdAt fRB 8 [] n, rbS W (rbR W S 11) 12, rbP S 16) := by kernel_rfl
omit [GT] in
theorem rb_round12 (W S : Nat → Int) (n : Nat) : runN tyT kO rbH rbLH 5000 4 [] [0, 4, 6, 7, 9] (inAt fRB 8 [] n) (rbS W S 12) = some (hdAt fRB 8 [] n, rbS W (rbR W S 12) 13, rbP S 16) := by kernel_rfl
omit [GT] in
theorem rb_round13 (W S : Nat → Int) (n : Nat) : runN tyT kO rbH rbLH 5000 4 [] [0, 4, 6, 7, 9] (inAt fRB 8 [] n) (rbS W S 13) = some (hdAt fRB 8 [] n, rbS W (rbR W S 13) 14, rbP S 16) := by kernel_rfl
omit [GT] in
theorem rb_round14 (W S : Nat → Int) (n : Nat) : runN tyT kO rbH rbLH 5000 4 [] [0, 4, 6, 7, 9] (inAt fRB 8 [] n) (rbS W S 14) = some (hdAt fRB 8 [] n, rbS W (rbL W S) 15, rbP S 0) := by kernel_rfl
omit [GT] in
def rbEnd (W S : Nat → Int) : St := { tm := tmL 127 [(6, .av (.one (.p 1 0)))], hp := [(0, ⟨2, 0, [.arr .i64 (keyL 240 W)]⟩), (1, ⟨0, 23, [.arr .u8 (keyL 16 fun j => IntKind.u8.wrap (S j))]⟩)], nx := 2, gl := [] }
omit [GT] in
theorem rb_end (W S : Nat → Int) (n : Nat) : runN tyT kO noH [(28, 17)] 5000 1 [2] [6] (inAt fRB 8 [] n) (rbS W S 15) = some ([.fin], rbEnd W S, []) := by kernel_rfl
end Go.Proofs.Ytkoackalpcmhaaa.Am
