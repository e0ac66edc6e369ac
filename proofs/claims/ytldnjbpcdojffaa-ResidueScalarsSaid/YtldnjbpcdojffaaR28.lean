/- @@NUM 25 The walk of residue's Scalar: a row of bytes modulo the order. Conditions: the row has 1 to 64 bytes. -/
import Derived.Test.YtldnjbpcdojffaaR26
import Derived.Test.YtldnjbpcdojffaaR27
namespace Go.Proofs.Ytldnjbpcdojffaa
set_option linter.unusedVariables false
set_option linter.unusedSimpArgs false
open Go Go.RowKit Go.Shelf
open Pl (V W4 T256 pL le SC)
attribute [local go_sem] Oper.semAt_some

theorem bits_and_u8_nat (a b : Nat) (ha : a < 256) (hb : b < 256) : bits .and .u8 (a : Int) (b : Int) = ((a &&& b : Nat) : Int) := by
  have hx : a &&& b < 2 ^ 8 := Nat.and_lt_two_pow _ (by omega)
  have h1 : (BitVec.ofInt 8 (a : Int)).toNat = a := by
    rw [BitVec.ofInt_natCast, BitVec.toNat_ofNat]; exact Nat.mod_eq_of_lt (by omega)
  have h2 : (BitVec.ofInt 8 (b : Int)).toNat = b := by
    rw [BitVec.ofInt_natCast, BitVec.toNat_ofNat]; exact Nat.mod_eq_of_lt (by omega)
  show IntKind.u8.wrap ((BitVec.ofInt 8 (a : Int) &&& BitVec.ofInt 8 (b : Int)).toNat : Int) = _
  rw [BitVec.toNat_and, h1, h2, IntKind.wrap_u8]
  omega
theorem and_one_u8 {c q : Nat} (h : c < 256) : bits .and .u8 ((c : Int) / 2 ^ q) 1 = ((c / 2 ^ q % 2 : Nat) : Int) := by
  have e : ((c : Int) / 2 ^ q) = ((c / 2 ^ q : Nat) : Int) := by push_cast; rfl
  have h2 : c / 2 ^ q < 256 := Nat.lt_of_le_of_lt (Nat.div_le_self _ _) h
  rw [e]
  have h3 := bits_and_u8_nat (c / 2 ^ q) 1 h2 (by omega)
  rw [Nat.and_one_is_mod] at h3
  exact h3

/-- All that lay keeps, but block b. -/
structure KeepX (N b : Nat) (A B : World) : Prop where
  below : Below N A B
  same : ∀ j, j < A.heap.size → j ≠ b → B.heap[j]? = A.heap[j]?
theorem KeepX.refl (N b : Nat) (A : World) : KeepX N b A A := ⟨Below.refl _ _, fun _ _ _ => rfl⟩
theorem KeepX.call {N b : Nat} {A B C : World} (h : KeepX N b A B) (hN : N ≤ A.heap.size) (k : Below B.heap.size B C) : KeepX N b A C :=
  ⟨h.below.trans (k.mono (Nat.le_trans hN h.below.size)), fun j hj hne => (k.block j (Nat.lt_of_lt_of_le hj h.below.size)).trans (h.same j hj hne)⟩
theorem KeepX.drew {N b : Nat} {A B : World} (h : KeepX N b A B) : KeepX N b A B.drew := ⟨h.below.drew, h.same⟩
theorem KeepX.set {N b : Nat} {A B : World} (h : KeepX N b A B) (hN : N ≤ b) (i : Nat) (u : Value) : KeepX N b A (B.setCell ⟨b, i, none⟩ u) :=
  ⟨h.below.setCell hN u, fun j hj hne => (Below.heap_setCell _ _ _ _ hne).trans (h.same j hj hne)⟩
theorem KeepX.others {N b : Nat} {A B : World} (h : KeepX N b A B) {cs : Array Value} {t : TypeId} {mk : Nat × Nat} (hb : A.heap[b]? = some (.cells cs t mk)) : KeepsOthers A B :=
  ⟨h.below.size, fun k o hk ho => by
    have hlt := (Array.getElem?_eq_some_iff.1 hk).1
    by_cases e : k = b
    · subst e; rw [hb] at hk; injection hk with hk; subst hk; cases ho
    · exact (h.same k hlt e).trans hk⟩
theorem KeepX.kpb {N b Bs : Nat} {A B : World} (h : KeepX N b A B) (h1 : Bs < A.heap.size) (h2 : Bs ≠ b) : KpB N Bs A B := ⟨h.below, h.same Bs h1 h2⟩
theorem kpb_b {N Bs : Nat} {w : World} (hn : N ≤ w.heap.size) (hBs : Bs < w.heap.size) (W : World) (l : Nat) (o o' : Obj) (hl : w.heap.size ≤ l) (h : W.heap[l]? = some o) (h1 : o.isCells = false) (h2 : o.isWalk = false) : KpB N Bs W (W.putObj l o') :=
  ⟨belowK_b hn W l o o' hl h h1 h2, World.putObj_heap_other (by omega)⟩
theorem heap_own {W W' : World} {row : Option Nat} {b : Nat} {cs : Array Value} {t : TypeId} {mk : Nat × Nat} (h : W.heap[b]? = some (.cells cs t mk)) (hg : W.grownBy W' row) (hr : ∀ r, row = some r → ∃ o : Obj, W.heap[r]? = some o ∧ o.isCells = false) : W'.heap[b]? = some (.cells cs t mk) :=
  (grownBy_keeps_cells hg hr h rfl).trans h

theorem pbUp_rev (zs : List Nat) (hz : ∀ j, j < zs.length → zs[j]?.getD 0 < 256) : ((pbUp zs 0).map (·.1.2)).reverse = zs := by
  have h : (pbUp zs 0).map (·.1.2) = zs.reverse := by
    apply List.ext_getElem
    · simp [pbUp]
    · intro i h1 h2
      rw [List.length_reverse] at h2
      have h3 := hz (zs.length - 1 - i) (by omega)
      rw [List.getElem_reverse]
      simp only [pbUp, pbAt, List.getElem_map, List.getElem_range]
      rw [Nat.mod_eq_of_lt h3, List.getElem?_eq_getElem (by omega), Option.getD_some]
  rw [h, List.reverse_reverse]

set_option maxRecDepth 100000 in
set_option maxHeartbeats 4000000 in
theorem Scalar_fact (zs : List Nat) (hz : ∀ j, j < zs.length → zs[j]?.getD 0 < 256) (h1 : 1 ≤ zs.length) (h64 : zs.length ≤ 64) : ∃ r0 r1 r2 r3 : Nat, (W4 r0 r1 r2 r3 ∧ V r0 r1 r2 r3 = le zs % pL) ∧ ∀ (sv : Value) (w : World), Bts w.heap.size w sv zs →
    Calls Try.prog 37 #[sv] w fun e w' => e = .returned (.tuple #[.agg #[.int .u64 r0, .int .u64 r1, .int .u64 r2, .int .u64 r3], .int .i64 0]) ∧ Below w.heap.size w w' := by
  obtain ⟨r0, r1, r2, r3, hr, hrv⟩ := Pl.words (le zs % pL) (Nat.lt_trans (Nat.mod_lt _ Pl.pL_pos) (by decide +kernel))
  refine ⟨r0, r1, r2, r3, ⟨hr, hrv⟩, fun sv w hI => ?_⟩
  have hI0 := hI
  rcases hI with ⟨rfl, rfl⟩ | ⟨x, cap, rfl, hb, hcs⟩
  · cases h1
  refine (callsIn_wide (n := 4)).1 ?_
  refine callsIn_of_wp_marks Try.func37 rfl trivial ?_ rfl
  simp only [Try.ntmps37, List.size_toArray, List.length_cons, List.length_nil, Nat.reduceAdd, Nat.reduceSub, Array.replicate_succ, Array.replicate_zero, List.push_toArray, List.append_toArray, List.nil_append, List.cons_append]
  have hd1 : decide ((zs.length : Int) < 1) = false := by rw [decide_eq_false_iff_not]; omega
  have hd2 : decide ((64 : Int) < (zs.length : Int)) = false := by rw [decide_eq_false_iff_not]; omega
  gi_wp2_with (refine ⟨trivial, ?_⟩; refine (back_in Fence.wide _ trivial rfl _ _ _ _).mono ?_; rintro e w' ⟨rfl, rfl⟩)
  obtain ⟨w1, hw1⟩ : ∃ y : World, y = ((w.alloc (.cells #[.int .u64 0, .int .u64 0, .int .u64 0, .int .u64 0] 25)).alloc (.cells #[.int .u64 0, .int .u64 0, .int .u64 0, .int .u64 0] 25)).alloc (.cells #[.slice (some x) zs.length cap] 22) := ⟨_, rfl⟩
  have hsz : w1.heap.size = w.heap.size + 3 := by rw [hw1]; simp
  have hR1 : w1.heap[w.heap.size]? = some (.cells #[.int .u64 0, .int .u64 0, .int .u64 0, .int .u64 0] 25 (0, 0)) := by rw [hw1]; exact heap_old (heap_old (heap_new _ _) _) _
  have hO1 : w1.heap[w.heap.size + 1]? = some (.cells #[.int .u64 0, .int .u64 0, .int .u64 0, .int .u64 0] 25 (0, 0)) := by rw [hw1]; exact heap_old (heap_new' (by simp) _) _
  have hS1 : w1.heap[w.heap.size + 2]? = some (.cells #[.slice (some x) zs.length cap] 22 (0, 0)) := by rw [hw1]; exact heap_new' (by simp) _
  have hB1 : Below w.heap.size w w1 := by rw [hw1]; exact (((Below.refl _ w).alloc (Nat.le_refl _) _).alloc (by simp) _).alloc (by simp; omega) _
  have hc1 : w1.cell? ⟨w.heap.size + 2, 0, none⟩ = some (.slice (some x) zs.length cap) := by simp [World.cell?, hS1]
  rw [← hw1]
  clear hw1
  refine wpIn_rangeFunc_ownF (n := 4) rfl (by omega) (gf := 57) (lb := #[.pointer (some ⟨w.heap.size + 2, 0, none⟩)]) rfl trivial (enters_of Try.func57 (by kernel_rfl) rfl)
    (back_stops Fence.wide _ trivial rfl (by omega) (w.heap.size + 2) w.heap.size _ zs hz (by omega) w1 (by omega) (by omega) hc1 (hI0.below hB1)) KpB.trans (kpb_b (by omega) (by omega)) (Below.refl _ _) (fun _ => rfl)
    (fun pre W => ((∃ o0 o1 o2 o3 : Nat, W.heap[w.heap.size + 1]? = some (.cells #[.int .u64 o0, .int .u64 o1, .int .u64 o2, .int .u64 o3] 25 (0, 0)) ∧ W4 o0 o1 o2 o3 ∧ V o0 o1 o2 o3 = le ((pre.map (·.1.2)).reverse) % pL) ∧ W.heap[w.heap.size]? = some (.cells #[.int .u64 0, .int .u64 0, .int .u64 0, .int .u64 0] 25 (0, 0)) ∧ w.heap.size + 3 ≤ W.heap.size) ∧ Below w.heap.size w W)
    (fun _ _ _ => False)
    (OwnFrom.and (Own.from (fun s A B row hs hg hr => by
      obtain ⟨⟨o0, o1, o2, o3, h1, h2⟩, h3, h4⟩ := hs
      exact ⟨⟨o0, o1, o2, o3, heap_own h1 hg hr, h2⟩, heap_own h3 hg hr, Nat.le_trans h4 hg.size⟩) _) (ownFrom_below (Nat.le_refl _) (by omega)))
    (fun _ _ _ _ _ hs _ _ => hs)
    ⟨⟨⟨0, 0, 0, 0, hO1, by unfold W4; omega, by decide +kernel⟩, hR1, by omega⟩, hB1⟩
    (fun p => { tmps := #[.slice (some x) zs.length cap, undef, .pointer (some ⟨w.heap.size, 0, none⟩), .int .i64 0, .pointer (some ⟨w.heap.size + 1, 0, none⟩), undef, .int .u8 (p.1.2 : Int), undef, .slice (some x) zs.length cap, .int .i64 (zs.length : Int), .bool false, .bool false, .slice (some x) zs.length cap, .int .i64 (zs.length : Int), .bool false, .bool false, undef, .slice (some x) zs.length cap, .func (.func 57) #[] #[.pointer (some ⟨w.heap.size + 2, 0, none⟩)], .int .i64 (p.1.1 : Int), .int .u8 (p.1.2 : Int), undef, undef, undef, undef, undef, undef, undef, undef, undef, undef, undef, undef], defers := [] }) ?assign ?body ?done ?stop
  case assign =>
    intro l x W K hK
    gi_wp2
    exact hK
  case body =>
    rintro l pre ⟨⟨ix, c⟩, hc⟩ W ⟨⟨⟨o0, o1, o2, o3, hO, hw4, hv⟩, hR, hW3⟩, hB⟩ hlen
    simp only at hc
    obtain ⟨A, hA⟩ : ∃ A, V o0 o1 o2 o3 = A := ⟨_, rfl⟩
    rw [hA] at hv
    have HA : Hid (A = le (pre.map (·.1.2)).reverse % pL) := hv
    have HS : Hid (SC A c 8 (V o0 o1 o2 o3)) := by rw [hA]; exact Pl.SC_start (by rw [hv]; exact Nat.mod_lt _ Pl.pL_pos) hc
    have HL0 : Hid (V o0 o1 o2 o3 < pL) := by rw [hA, hv]; exact Nat.mod_lt _ Pl.pL_pos
    have HC := Lib.hid hc; have HR := Lib.hid hR; have HO1 := Lib.hid hO; have HB := Lib.hid hB; have HW4 := Lib.hid hw4; have HW3 := Lib.hid hW3
    clear hR hO hB hw4 hv hA hlen hW3 hB1 hS1 hR1 hO1 hc1 hcs hI0 hd1 hd2 hr hrv
    gi_wp2
    gi_loopw [7] (fun v7 wr => ∃ (i : Nat) (z : Int) (q0 q1 q2 q3 : Nat), v7 = .int .i64 z ∧ Hid (z = (i : Int) - 1 ∧ i ≤ 8) ∧ Hid (W4 q0 q1 q2 q3 ∧ SC A c i (V q0 q1 q2 q3) ∧ V q0 q1 q2 q3 < pL) ∧ Hid (wr.heap[w.heap.size + 1]? = some (.cells #[.int .u64 q0, .int .u64 q1, .int .u64 q2, .int .u64 q3] 25 (0, 0))) ∧ Hid (KeepX w.heap.size (w.heap.size + 1) W wr)) (fun v7 _ => (intOf v7 + 1).toNat)
    case atStart => exact ⟨8, 7, o0, o1, o2, o3, rfl, ⟨rfl, Nat.le_refl _⟩, ⟨HW4.out, HS.out, HL0.out⟩, HO1.out, KeepX.refl _ _ _⟩
    case round =>
      obtain ⟨i, z, q0, q1, q2, q3, rfl, HZ, HQ, HO, HX⟩ := hrel
      rcases i with _ | k
      · obtain rfl : z = -1 := by have := HZ.out.1; omega
        gi_wp2
        have hX := HX.out
        refine ⟨hX.others HO1.out, hX.kpb (by have := HW3.out; omega) (by omega), ⟨⟨q0, q1, q2, q3, HO.out, HQ.out.1, ?_⟩, (hX.same _ (by have := HW3.out; omega) (by omega)).trans HR.out, Nat.le_trans HW3.out hX.below.size⟩, HB.out.trans hX.below⟩
        rw [List.map_append, List.map_cons, List.map_nil, List.reverse_append]
        exact Pl.SC_row HA.out HQ.out.2.1
      · obtain rfl : z = (k : Int) := by have := HZ.out.1; omega
        have hk : k < 8 := by have := HZ.out.2; omega
        obtain ⟨bt, hbt⟩ : ∃ bt, c / 2 ^ k % 2 = bt := ⟨_, rfl⟩
        have hb1 : bt ≤ 1 := by omega
        obtain ⟨d0, d1, d2, d3, ⟨hd, hdv⟩, FD⟩ := double_fact q0 q1 q2 q3 bt HQ.out.1 HQ.out.2.2 hb1
        have hand := and_one_u8 (q := k) HC.out
        rw [hbt] at hand
        have hwr : IntKind.u64.wrap (bt : Int) = (bt : Int) := by rw [IntKind.wrap_u64]; omega
        have HN : Hid (SC A c k (V d0 d1 d2 d3) ∧ V d0 d1 d2 d3 < pL) := ⟨Pl.SC_step hk HQ.out.2.1 (by rw [hdv, hbt]), by rw [hdv]; exact Nat.mod_lt _ Pl.pL_pos⟩
        have HD := Lib.hid FD; have HDW := Lib.hid hd
        have cO := cells4 HO.out; have fO := frozen_of HO.out
        clear FD hd hdv hbt
        have hmx : Try.prog.follows .mixedOrders = true := by kernel_rfl
        gi_wp2
        gi_region_with_o (refine ⟨trivial, ?_⟩; refine (CallsIn.inRound l (callsIn_wide.2 (HD.out _))).mono ?_; rintro e w2 ⟨rfl, hb⟩; have hO2 := heap_keep' hb (heap_drew HO.out); have cO2 := cells4 hO2; have fO2 := frozen_of hO2)
        all_goals gi_wp2
        all_goals
          refine ⟨⟨k, (k : Int) - 1, d0, d1, d2, d3, rfl, ⟨rfl, by omega⟩, ⟨HDW.out, HN.out.1, HN.out.2⟩, set4 hO2 _ _ _ _, ?_⟩, ?_⟩
          · exact ((((HX.out.drew.call (by have := HW3.out; omega) hb).set (by omega) _ _).set (by omega) _ _).set (by omega) _ _).set (by omega) _ _
          · simp only [intOf]; omega
  case done =>
    rintro D ys W hD rfl ⟨⟨⟨o0, o1, o2, o3, hO, hw4, hv⟩, hR, hW3⟩, hB⟩ hK
    have cO := cells4 hO; have cR := cells4 hR; have fR := frozen_of hR
    obtain ⟨rfl, rfl, rfl, rfl⟩ := Pl.V_inj hw4 hr (by rw [hv, hrv, pbUp_rev zs hz])
    gi_wp2
    have hS := set4 hR (.int .u64 o0) (.int .u64 o1) (.int .u64 o2) (.int .u64 o3)
    have hKS := keep4 (b' := w.heap.size) hK (by omega) (.int .u64 o0) (.int .u64 o1) (.int .u64 o2) (.int .u64 o3)
    have hBS := set4_below (b := w.heap.size) hB (Nat.le_refl _) (.int .u64 o0) (.int .u64 o1) (.int .u64 o2) (.int .u64 o3)
    obtain ⟨v, hv2⟩ : ∃ y, y = ((((W.setCell ⟨w.heap.size, 0, none⟩ (.int .u64 o0)).setCell ⟨w.heap.size, 1, none⟩ (.int .u64 o1)).setCell ⟨w.heap.size, 2, none⟩ (.int .u64 o2)).setCell ⟨w.heap.size, 3, none⟩ (.int .u64 o3)) := ⟨_, rfl⟩
    rw [← hv2] at hS hKS hBS ⊢
    clear hv2
    refine ⟨by simp, .inl ⟨_, _, rfl, run_takeDeferred hKS, ?_⟩⟩
    have hQ := cells4 (heap_own hS (grownBy_putObj' v D (.deferred none)) (fun r e => by cases e; exact ⟨_, hKS, rfl⟩))
    refine ⟨.tuple #[.agg #[.int .u64 o0, .int .u64 o1, .int .u64 o2, .int .u64 o3], .int .i64 0], ?_, rfl, hBS.trans (belowK_b (w := w) (Nat.le_refl _) v D _ _ (by omega) hKS rfl rfl)⟩
    simp [results, Try.results37, Try.f37, go_sem, hQ]
  case stop =>
    rintro D c pre W _ _ h _
    exact h.elim

end Go.Proofs.Ytldnjbpcdojffaa
