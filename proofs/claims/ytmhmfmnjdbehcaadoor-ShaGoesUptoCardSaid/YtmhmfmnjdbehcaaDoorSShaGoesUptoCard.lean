/- The law ShaGoes where what it reads is of bounded bulk: for every such input it returns true, and the input reads behind the call as it read before. Conditions: none. -/
import Derived.Test.YtmhmfmnjdbehcaaDoorZ9
import Derived.Test.YtmhmfmnjdbehcaaDoorZ10
import Derived.Test.YtmhmfmnjdbehcaaDoorZ7
import Derived.Test.YtmhmfmnjdbehcaaDoorCards
import Derived.Test.YtmhmfmnjdbehcaaDoorTie
import Derived.Lay
import Derived.SevenTiedAt
import Derived.JoinedCond
import Derived.Deep.DeepHandedRow
set_option linter.unusedSectionVars false
namespace Go.Proofs.YtmhmfmnjdbehcaaDoor
set_option linter.unusedVariables false
set_option linter.unusedSimpArgs false
open Go Go.ChangeShapes Go.WideShapes Go.ChangeAt Go.RowKit

/-- The tables that this law's row lists. -/
def tabL : List (Nat × List Value) := [((2 : Nat), Am.kRounds.map (Value.int .u64)), ((0 : Nat), Am.kStart512.map (Value.int .u64)), ((1 : Nat), Am.kStart384.map (Value.int .u64))]
theorem gwL {W : World} (hL : laidMet Tryd.prog Rows.shaGoesUptoRow.laid W) {x : Nat × List Value} (hx : x ∈ tabL) : x.1 < W.heap.size ∧ x.1 ∉ ([] : List Nat) ∧ ∃ cs ty mk, W.heap[x.1]? = some (.cells cs ty mk) ∧ cs.toList = x.2 := by
  unfold tabL at hx
  simp only [List.mem_cons, List.not_mem_nil, or_false] at hx
  rcases hx with rfl | rfl | rfl
  · exact laid_cells (zs := Am.kRounds) (k := .u64) (name := "escutcheon/api.Rounds80") (t := 74) (e := 59) (n := 80) hL (List.Mem.head _) (by kernel_rfl) (by kernel_rfl) (by kernel_rfl) (by kernel_rfl) (by kernel_rfl) (by kernel_rfl)
  · exact laid_cells (zs := Am.kStart512) (k := .u64) (name := "escutcheon/api.Start512") (t := 60) (e := 59) (n := 8) hL (List.Mem.tail _ (List.Mem.head _)) (by kernel_rfl) (by kernel_rfl) (by kernel_rfl) (by kernel_rfl) (by kernel_rfl) (by kernel_rfl)
  · exact laid_cells (zs := Am.kStart384) (k := .u64) (name := "escutcheon/api.Start384") (t := 60) (e := 59) (n := 8) hL (List.Mem.tail _ (List.Mem.tail _ (List.Mem.head _))) (by kernel_rfl) (by kernel_rfl) (by kernel_rfl) (by kernel_rfl) (by kernel_rfl) (by kernel_rfl)
/-- The law's call. -/
theorem shaGoes_call {W : World} (hL : laidMet Tryd.prog Rows.shaGoesUptoRow.laid W) (l : List Am.Pt) (a : Option Addr) (cap : Nat) (short : Bool) (h1 : l.length ≤ cap) (h2 : Am.pv l = [] ∨ ∃ x, a = some x ∧ ∀ j u, (Am.pv l)[j]? = some u → W.cell? (x.add j) = some u) (h3 : ∀ x, a = some x → x.block < W.heap.size) (hp : ∀ x ∈ l, PartAt W x ∧ ∀ z ∈ x.2.2, (Lit.int .u8 z).wf = true) (hn : l.length ≤ 1048576) (hj : (Am.jn l).length ≤ 1048576) : Calls Tryd.prog 3 #[.slice a l.length cap, .bool short] W fun e w' => e = .returned (.bool true) ∧ Below W.heap.size W w' := by
  let gt : Am.GT := ⟨tabL ++ ptTab W l⟩
  haveI : @Am.GRnd gt := ⟨List.mem_append_left _ (List.Mem.head _)⟩
  haveI : @Am.G512 gt := ⟨List.mem_append_left _ (List.Mem.tail _ (List.Mem.head _))⟩
  haveI : @Am.G384 gt := ⟨List.mem_append_left _ (List.Mem.tail _ (List.Mem.tail _ (List.Mem.head _)))⟩
  have hgw : @Am.GWok gt W.heap.size [] W := fun x hx => by
    rcases List.mem_append.1 hx with h | h
    · exact gwL hL h
    · exact ptTab_gw h
  have hps : @Am.PtsOK gt l := fun x hx => ptTab_row (fun y hy => List.mem_append_right _ hy) hx (hp x hx).1
  have hb : Am.isBs (Am.jn l) := fun z hz => by
    unfold Am.jn at hz
    obtain ⟨x, hx, hz⟩ := List.mem_flatMap.1 hz
    have hw := (hp x hx).2 z hz
    have := bounds_u8 hw
    omega
  exact Am.lawGoes_fact l a cap short hgw hps (by omega) (by omega) hb h1 h2 h3
theorem shaGoes_reads (os : Os) {H : Type} (enc : TypeId × Value → H) : ∃ places, DataW.whole enc Tryd.prog ((World.laidAll Tryd.prog os Rows.shaGoesUptoRow.laid).forCall (fun _ _ => 0) ⟨#[], #[.slice none 0 0, .bool false], []⟩).memory Tryd.f3.params.toList Rows.shaGoesSpec.vars false (#[.slice none 0 0, .bool false] : Array Value).toList 8 = some ([.nil, .lit (.bool false)], [], places) :=
  ⟨[], by kernel_rfl⟩
set_option maxRecDepth 100000 in
theorem shaGoes_lifted (os : Os) (started : os.Started) (H : Type) (enc : TypeId × Value → H) (F : Stop.Interp) :
    ReturnsInHanded {} Tryd.checked os 3 .any ((Rows.OpenSpec.upto Rows.shaGoesSpec).preRow enc Tryd.prog Tryd.f3 Rows.shaGoesUptoRow.domain false Rows.shaGoesUptoRow.laid) (((Rows.OpenSpec.upto Rows.shaGoesSpec).at F).post enc Tryd.prog Tryd.f3 false true false false) := by
  obtain ⟨places, hx⟩ := shaGoes_reads os enc
  refine returnsInHanded_of_row (C := Tryd.checked) (s := Rows.OpenSpec.upto Rows.shaGoesSpec) own_ started (by kernel_rfl) Tryd.func3
    (witness_row_at (enc := enc) (C := Tryd.checked) false (World.laidAll Tryd.prog os Rows.shaGoesUptoRow.laid) #[.slice none 0 0, .bool false] (World.laidAll_os _ _ _) (by kernel_rfl) (by kernel_rfl) (by kernel_rfl)
      (OpenSpec.preRow_of_cond 8 hx (by kernel_rfl) (fun k hk => by cases hk; kernel_rfl) (by kernel_rfl) (laidMet_laidAll _ (by kernel_rfl) (by kernel_rfl)))) ?_
  intro W base args ds gs before hval0 hW _ hcond _ hL _ _
  have hval : ∀ (j : Nat) t v, Tryd.f3.params[j]? = some t → args[j]? = some v → Value.okWide Tryd.prog W .any base t v := hval0
  have hbulk : Rows.uptoBulkAll (ds ++ gs) ≤ 1048576 := of_decide_eq_true (hcond _ rfl)
  have hW' := hW
  obtain ⟨p, q, hA0, hV, rfl, hfz, hnd⟩ := hW
  have hA : DataW.TrodAll enc Tryd.prog W 0 (fun _ => true) true Tryd.f3.params.toList args.toList ds p := hA0
  rw [Tryd.params3] at hA hval
  obtain ⟨v0, vs0, d0, ds0, p0, q0, hargs, rfl, rfl, h0, r0⟩ := trodAll_cons hA
  obtain ⟨v1, vs1, d1, ds1, p1, q1, rfl, rfl, rfl, h1, r1⟩ := trodAll_cons r0
  obtain ⟨rfl, rfl, rfl⟩ := trodAll_nil r1
  obtain rfl : args = #[v0, v1] := by cases args; simp_all
  obtain ⟨rfl, rfl⟩ := trodVars_none hV
  simp only [List.append_nil, Rows.uptoBulkAll] at hbulk
  have k0 := h0
  have lt0 : ∀ x ∈ p0, x.block < W.heap.size := by obtain ⟨m, hm⟩ := k0; exact DataW.trod_lt m _ _ _ hm
  have k1 := h1
  have lt1 : ∀ x ∈ p1, x.block < W.heap.size := by obtain ⟨m, hm⟩ := k1; exact DataW.trod_lt m _ _ _ hm
  obtain ⟨a, cap, l, rfl, g1, g2, g3, g4, g5, g6⟩ := open_slsl Tryd.underlying22 Tryd.underlying27 Tryd.underlying5 (by kernel_rfl) (by kernel_rfl) (hval 0 22 v0 rfl rfl) h0 1048576 (by omega)
  obtain ⟨short, rfl, rfl, rfl⟩ := open_bool Tryd.underlying4 (hval 1 4 v1 rfl rfl) h1
  clear hA0 hval0
  refine (shaGoes_call hL l a cap short g1 g2 g3 g4 g5 g6).mono fun e W' ⟨he, bel⟩ => ?_
  subst he
  exact ⟨_, rfl, _, _, _, [], _, [], hW', trodAll_mk1 (shut_bool Tryd.underlying4 _), (trodAll_cons_mk (Below.trod laidOut_ (by kernel_rfl) (of_decide_eq_true (by kernel_rfl)) k0 bel lt0) (trodAll_cons_mk (Below.trod laidOut_ (by kernel_rfl) (of_decide_eq_true (by kernel_rfl)) k1 bel lt1) trodAll_mk0)), rfl, bel.frame _, fun h => by cases h⟩

/-- The given statement ShaGoesUptoSaid. -/
theorem shaGoesUpto_holds : Rows.ShaGoesUptoSaid :=
  OpenClaim.holds_of_cond 3 Tryd.f3 rfl rfl rfl rfl rfl rfl rfl ⟨rfl, rfl, rfl, rfl, rfl⟩ rfl rfl rfl rfl rfl (by kernel_rfl) Tryd.func3 (by kernel_rfl)
    (of_decide_eq_true (by kernel_rfl)) (by unfold Func.isWrapper; first | (rw [if_pos (by decide +kernel)]; kernel_rfl) | (rw [if_neg (by decide +kernel)]; exact ⟨rfl, rfl⟩))
    (fun os started H enc _ F => by rw [OpenClaim.pre_eq_preRow]; exact shaGoes_lifted os started H enc F)
#print axioms shaGoesUpto_holds

/-- The given statement ShaGoesUptoCardSaid: the row, its listed tables tied to the program's text. -/
theorem shaGoesUpto_card : Rows.ShaGoesUptoCardSaid :=
  Claim7.holds_tied_plain_at .later [] [.data, .data, .data] true Rows.shaGoesUptoCard.stood.harness false
    shaGoesUpto_holds (fun _ h => by cases h) (by kernel_rfl) (fun _ h => by cases h) shaGoesUpto_row_tie rfl ⟨rfl, rfl⟩ (by kernel_rfl) rfl
    (fun f fn hf hfn => by
      obtain rfl : f = 3 := Option.some.inj ((show Tryd.prog.funcNamed "escutcheon/escutcheonlaw02.ShaGoes" = some 3 by kernel_rfl).symm.trans hf) |>.symm
      obtain rfl : fn = Tryd.f3 := (Option.some.inj (Tryd.func3.symm.trans hfn)).symm
      refine ⟨by kernel_rfl, fun j t ht => ?_⟩
      have hall : (Tryd.f3.params.all fun t => !Tryd.prog.wantsStandIn t) = true := by kernel_rfl
      have hm := Array.mem_of_getElem? ht
      have := Array.all_eq_true_iff_forall_mem.1 hall t hm
      have h2 : Tryd.prog.wantsStandIn t = false := by simpa using this
      exact h2)
    (by kernel_rfl)
#print axioms shaGoesUpto_card

end Go.Proofs.YtmhmfmnjdbehcaaDoor
