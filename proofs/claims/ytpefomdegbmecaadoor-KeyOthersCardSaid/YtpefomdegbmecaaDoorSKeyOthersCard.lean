/- The law KeyOthers: for every input it returns true, and the input reads behind the call as it read before. Conditions: none. -/
import Derived.Test.YtpefomdegbmecaaDoorZ8
import Derived.Test.YtpefomdegbmecaaDoorCards
import Derived.Test.YtpefomdegbmecaaDoorTie
import Derived.Lay
import Derived.SevenTiedAt
set_option linter.unusedSectionVars false
namespace Go.Proofs.YtpefomdegbmecaaDoor
set_option linter.unusedVariables false
set_option linter.unusedSimpArgs false
open Go Go.ChangeShapes Go.WideShapes Go.ChangeAt Go.RowKit


namespace Am
/-- The tables that this law's row lists. -/
instance gtL : GT := ⟨[(1, kRounds.map (Value.int .u64)), (0, kStart512.map (Value.int .u64))]⟩
instance : GRnd := ⟨List.Mem.head _⟩
instance : G512 := ⟨List.Mem.tail _ (List.Mem.head _)⟩
end Am
theorem gwL {W : World} (hL : laidMet Tryd.prog Rows.keyOthersRow.laid W) : Am.GWok W.heap.size [] W := fun x hx => by
  replace hx : x ∈ [((1 : Nat), Am.kRounds.map (Value.int .u64)), ((0 : Nat), Am.kStart512.map (Value.int .u64))] := hx
  simp only [List.mem_cons, List.not_mem_nil, or_false] at hx
  rcases hx with rfl | rfl
  · exact laid_cells (zs := Am.kRounds) (k := .u64) (name := "escutcheon/api.Rounds80") (t := 107) (e := 58) (n := 80) hL (List.Mem.head _) (by kernel_rfl) (by kernel_rfl) (by kernel_rfl) (by kernel_rfl) (by kernel_rfl) (by kernel_rfl)
  · exact laid_cells (zs := Am.kStart512) (k := .u64) (name := "escutcheon/api.Start512") (t := 95) (e := 58) (n := 8) hL (List.Mem.tail _ (List.Mem.head _)) (by kernel_rfl) (by kernel_rfl) (by kernel_rfl) (by kernel_rfl) (by kernel_rfl) (by kernel_rfl)
set_option maxRecDepth 100000 in
theorem keyOthers_lifted (os : Os) (started : os.Started) (H : Type) (enc : TypeId × Value → H) :
    ReturnsInHanded {} Tryd.checked os 4 .any (fun w args => (Rows.keyOthersSpec.pre enc Tryd.prog Tryd.f4 Rows.keyOthersRow.domain false w args ∧ laidMet Tryd.prog Rows.keyOthersRow.laid w) ∧ sizedMet enc Tryd.prog Tryd.f4 (OpenSpec.ofChange Rows.keyOthersSpec) false w args) (Rows.keyOthersSpec.post enc Tryd.prog Tryd.f4 false true false false) := by
  refine returnsInHanded_of_change_and (C := Tryd.checked) (X := fun w _ => laidMet Tryd.prog Rows.keyOthersRow.laid w) (fun _ _ _ hh h => h.of_heap hh) own_ started (by kernel_rfl) Tryd.func4
    (ChangeSpec.witness_shaped (enc := enc) (C := Tryd.checked) (os := os) (X := fun w _ => laidMet Tryd.prog Rows.keyOthersRow.laid w) false (World.laidAll Tryd.prog os Rows.keyOthersRow.laid) #[.agg (Array.replicate 32 (.int .u8 0)), .int .u8 0, .int .u8 0] 8 (World.laidAll_os _ _ _)
      (World.shaped_of_ZipB (by kernel_rfl) (by kernel_rfl)) (by kernel_rfl) (by kernel_rfl) (by kernel_rfl)
      (laidMet_laidAll _ (by kernel_rfl) (by kernel_rfl))) ?_
  intro W base args ds gs before hval0 hW hcnd _ hL _
  have hgw := gwL hL
  have hval : ∀ (j : Nat) t v, Tryd.f4.params[j]? = some t → args[j]? = some v → Value.okWide Tryd.prog W .any base t v := hval0
  have hW' := hW
  obtain ⟨p, q, hA0, hV, rfl, hfz, hnd⟩ := hW
  have hA : DataW.TrodAll enc Tryd.prog W 0 (fun _ => true) true Tryd.f4.params.toList args.toList ds p := hA0
  rw [Tryd.params4] at hA hval
  obtain ⟨v0, vs0, d0, ds0, p0, q0, hargs, rfl, rfl, h0, r0⟩ := trodAll_cons hA
  obtain ⟨v1, vs1, d1, ds1, p1, q1, rfl, rfl, rfl, h1, r1⟩ := trodAll_cons r0
  obtain ⟨v2, vs2, d2, ds2, p2, q2, rfl, rfl, rfl, h2, r2⟩ := trodAll_cons r1
  obtain ⟨rfl, rfl, rfl⟩ := trodAll_nil r2
  obtain rfl : args = #[v0, v1, v2] := by cases args; simp_all
  obtain ⟨rfl, rfl⟩ := trodVars_none hV
  have k0 := h0
  have lt0 : ∀ x ∈ p0, x.block < W.heap.size := by obtain ⟨m, hm⟩ := k0; exact DataW.trod_lt m _ _ _ hm
  obtain ⟨x, lx, wx, rfl⟩ := open_arr Tryd.underlying38 Tryd.underlying5 (by kernel_rfl) (by kernel_rfl) (hval 0 38 v0 rfl rfl) h0
  have k1 := h1
  have lt1 : ∀ x ∈ p1, x.block < W.heap.size := by obtain ⟨m, hm⟩ := k1; exact DataW.trod_lt m _ _ _ hm
  obtain ⟨a, rfl, rfl, rfl, wa⟩ := open_int Tryd.underlying5 (hval 1 5 v1 rfl rfl) h1
  have k2 := h2
  have lt2 : ∀ x ∈ p2, x.block < W.heap.size := by obtain ⟨m, hm⟩ := k2; exact DataW.trod_lt m _ _ _ hm
  obtain ⟨y, rfl, rfl, rfl, wy⟩ := open_int Tryd.underlying5 (hval 2 5 v2 rfl rfl) h2
  clear hA0 hval0
  refine (Am.lawKeyOthers_fact x lx wx a wa y wy W hgw).mono fun e W' ⟨he, bel⟩ => ?_
  subst he
  exact ⟨_, rfl, _, _, _, [], _, [], hW', trodAll_mk1 (shut_bool Tryd.underlying4 _), (trodAll_cons_mk (Below.trod laidOut_ (by kernel_rfl) (of_decide_eq_true (by kernel_rfl)) k0 bel lt0) (trodAll_cons_mk (Below.trod laidOut_ (by kernel_rfl) (of_decide_eq_true (by kernel_rfl)) k1 bel lt1) (trodAll_cons_mk (Below.trod laidOut_ (by kernel_rfl) (of_decide_eq_true (by kernel_rfl)) k2 bel lt2) trodAll_mk0))), rfl, bel.frame _, fun h => by cases h⟩

/-- The given statement KeyOthersSaid. -/
theorem keyOthers_holds : Rows.KeyOthersSaid :=
  OpenClaim.holds_of_wide 4 Tryd.f4 rfl rfl rfl rfl rfl rfl rfl ⟨rfl, rfl, rfl, rfl, rfl⟩ rfl rfl rfl rfl rfl (by kernel_rfl) Tryd.func4 (by kernel_rfl)
    (of_decide_eq_true (by kernel_rfl)) (by unfold Func.isWrapper; first | (rw [if_pos (by decide +kernel)]; kernel_rfl) | (rw [if_neg (by decide +kernel)]; exact ⟨rfl, rfl⟩))
    (fun os started H enc _ => keyOthers_lifted os started H enc)
#print axioms keyOthers_holds

/-- The given statement KeyOthersCardSaid: the row, its listed tables tied to the program's text. -/
theorem keyOthers_card : Rows.KeyOthersCardSaid :=
  Claim7.holds_tied_plain_at .later [] [.data, .data] true Rows.keyOthersCard.stood.harness false
    keyOthers_holds (fun _ h => by cases h) (by kernel_rfl) (fun _ h => by cases h) keyOthers_row_tie rfl ⟨rfl, rfl⟩ (by kernel_rfl) rfl
    (fun f fn hf hfn => by
      obtain rfl : f = 4 := Option.some.inj ((show Tryd.prog.funcNamed "escutcheon/escutcheonlaw12.KeyOthers" = some 4 by kernel_rfl).symm.trans hf) |>.symm
      obtain rfl : fn = Tryd.f4 := (Option.some.inj (Tryd.func4.symm.trans hfn)).symm
      refine ⟨by kernel_rfl, fun j t ht => ?_⟩
      have hall : (Tryd.f4.params.all fun t => !Tryd.prog.wantsStandIn t) = true := by kernel_rfl
      have hm := Array.mem_of_getElem? ht
      have := Array.all_eq_true_iff_forall_mem.1 hall t hm
      have h2 : Tryd.prog.wantsStandIn t = false := by simpa using this
      exact h2)
    (by kernel_rfl)
#print axioms keyOthers_card

end Go.Proofs.YtpefomdegbmecaaDoor
