/- The abstract machine: what its lists of cells say. Conditions: none. -/
import Derived.Test.YtkoackalpcmhaaaM2
namespace Go.Proofs.Ytkoackalpcmhaaa.Am
set_option linter.unusedVariables false
set_option linter.unusedSimpArgs false
open Go Go.RowKit

theorem Seg.vals_len (ρ : Nat → Loc) (s : Seg) : (s.vals ρ).length = s.width := by
  cases s <;> simp [Seg.vals, Seg.width, words]
theorem segsVals_nil (ρ : Nat → Loc) : segsVals ρ [] = [] := rfl
theorem segsVals_cons (ρ : Nat → Loc) (x : Seg) (l : List Seg) : segsVals ρ (x :: l) = x.vals ρ ++ segsVals ρ l := by simp [segsVals]
theorem segsVals_append (ρ : Nat → Loc) (a b : List Seg) : segsVals ρ (a ++ b) = segsVals ρ a ++ segsVals ρ b := by simp [segsVals]
theorem segsVals_one (ρ : Nat → Loc) (x : Seg) : segsVals ρ [x] = x.vals ρ := by simp [segsVals]
theorem segsVals_len (ρ : Nat → Loc) : ∀ (l : List Seg), (segsVals ρ l).length = widths l
  | [] => rfl
  | x :: l => by rw [segsVals_cons, List.length_append, Seg.vals_len, segsVals_len ρ l]; rfl

theorem cut_spec (ρ : Nat → Loc) : ∀ (l : List Seg) (n : Nat) (a b : List Seg), cut l n = some (a, b) → segsVals ρ a ++ segsVals ρ b = segsVals ρ l ∧ (segsVals ρ a).length = n
  | [], 0, a, b, h => by
    simp only [cut, Option.some.injEq, Prod.mk.injEq] at h
    obtain ⟨rfl, rfl⟩ := h
    exact ⟨rfl, rfl⟩
  | [], n + 1, a, b, h => by simp [cut] at h
  | x :: l, 0, a, b, h => by
    simp only [cut, Option.some.injEq, Prod.mk.injEq] at h
    obtain ⟨rfl, rfl⟩ := h
    exact ⟨rfl, rfl⟩
  | x :: l, n + 1, a, b, h => by
    unfold cut at h
    split at h
    · rename_i hw
      replace hw := Nat.le_of_ble_eq_true hw
      split at h
      · rename_i a' b' h'
        simp only [Option.some.injEq, Prod.mk.injEq] at h
        obtain ⟨rfl, rfl⟩ := h
        obtain ⟨h1, h2⟩ := cut_spec ρ l _ _ _ h'
        rw [segsVals_cons, segsVals_cons, List.append_assoc, h1]
        refine ⟨rfl, ?_⟩
        rw [List.length_append, h2, Seg.vals_len]
        omega
      · cases h
    · rename_i hw
      replace hw : ¬ x.width ≤ n + 1 := fun hc => by rw [Nat.ble_eq_true_of_le hc] at hw; cases hw
      split at h
      · rename_i m
        simp only [Option.some.injEq, Prod.mk.injEq] at h
        obtain ⟨rfl, rfl⟩ := h
        rw [segsVals_one, segsVals_cons, segsVals_cons, ← List.append_assoc]
        have e : Seg.vals ρ (.arr .u64 ((words m).take (n + 1))) ++ Seg.vals ρ (.arr .u64 ((words m).drop (n + 1))) = Seg.vals ρ (.num m) := by
          simp only [Seg.vals]
          rw [← List.map_append, List.take_append_drop]
        rw [e]
        refine ⟨rfl, ?_⟩
        simp only [Seg.width] at hw
        simp only [Seg.vals, List.length_map, List.length_take, words, List.length_cons, List.length_nil]
        omega
      · rename_i k zs
        simp only [Option.some.injEq, Prod.mk.injEq] at h
        obtain ⟨rfl, rfl⟩ := h
        rw [segsVals_one, segsVals_cons, segsVals_cons, ← List.append_assoc]
        have e : Seg.vals ρ (.arr k (zs.take (n + 1))) ++ Seg.vals ρ (.arr k (zs.drop (n + 1))) = Seg.vals ρ (.arr k zs) := by
          simp only [Seg.vals]
          rw [← List.map_append, List.take_append_drop]
        rw [e]
        refine ⟨rfl, ?_⟩
        simp only [Seg.width] at hw
        simp only [Seg.vals, List.length_map, List.length_take]
        omega
      · rename_i k F m
        simp only [Option.some.injEq, Prod.mk.injEq] at h
        obtain ⟨rfl, rfl⟩ := h
        rw [segsVals_one, segsVals_cons, segsVals_cons, ← List.append_assoc]
        have e : Seg.vals ρ (.arr k ((F m).take (n + 1))) ++ Seg.vals ρ (.arr k ((F m).drop (n + 1))) = Seg.vals ρ (.ap k F m) := by
          simp only [Seg.vals]
          rw [← List.map_append, List.take_append_drop]
        rw [e]
        refine ⟨rfl, ?_⟩
        simp only [Seg.width] at hw
        simp only [Seg.vals, List.length_map, List.length_take]
        omega
      · cases h

theorem getSegs_spec (ρ : Nat → Loc) {l m : List Seg} {off n : Nat} (h : getSegs l off n = some m) : segsVals ρ m = ((segsVals ρ l).drop off).take n ∧ (segsVals ρ m).length = n := by
  unfold getSegs at h
  split at h
  · rename_i a r h1
    split at h
    · rename_i m' c h2
      simp only [Option.some.injEq] at h
      subst h
      obtain ⟨e1, e2⟩ := cut_spec ρ _ _ _ _ h1
      obtain ⟨e3, e4⟩ := cut_spec ρ _ _ _ _ h2
      refine ⟨?_, e4⟩
      rw [← e1, ← e2, List.drop_left, ← e3, ← e4, List.take_left]
    · cases h
  · cases h
theorem getSegs_at (ρ : Nat → Loc) {l m : List Seg} {off n : Nat} (h : getSegs l off n = some m) : ∀ j u, (segsVals ρ m)[j]? = some u → (segsVals ρ l)[off + j]? = some u := by
  intro j u hj
  obtain ⟨h1, h2⟩ := getSegs_spec ρ h
  have hlt : j < n := by rw [← h2]; exact (List.getElem?_eq_some_iff.1 hj).1
  rw [h1, List.getElem?_take_of_lt hlt, List.getElem?_drop] at hj
  exact hj
theorem cellOf_spec (ρ : Nat → Loc) {x : Seg} {off : Nat} (h : off < x.width) : (x.vals ρ)[off]? = some ((cellOf off x).conc ρ) := by
  cases x
  case num m =>
    simp only [Seg.width] at h
    have hl : off < (words m).length := by simp only [words, List.length_cons, List.length_nil]; omega
    simp [Seg.vals, cellOf, Seg.conc, List.getD_eq_getElem?_getD, List.getElem?_eq_getElem hl]
  case arr k zs =>
    simp only [Seg.width] at h
    simp [Seg.vals, cellOf, Seg.conc, List.getD_eq_getElem?_getD, List.getElem?_eq_getElem h]
  case ap k F n =>
    simp only [Seg.width] at h
    simp [Seg.vals, cellOf, Seg.conc, List.getD_eq_getElem?_getD, List.getElem?_eq_getElem h]
  all_goals
    simp only [Seg.width] at h
    obtain rfl : off = 0 := by omega
    rfl
theorem cell_spec (ρ : Nat → Loc) : ∀ (l : List Seg) (off : Nat) (x : Seg), cell l off = some x → (segsVals ρ l)[off]? = some (x.conc ρ)
  | [], _, _, h => by simp [cell] at h
  | y :: l, off, x, h => by
    unfold cell at h
    split at h
    · rename_i hw
      replace hw := Nat.le_of_ble_eq_true hw
      rw [segsVals_cons, List.getElem?_append_right (by rw [Seg.vals_len]; exact hw), Seg.vals_len]
      exact cell_spec ρ l _ x h
    · rename_i hw
      replace hw : ¬ y.width ≤ off := fun hc => by rw [Nat.ble_eq_true_of_le hc] at hw; cases hw
      simp only [Option.some.injEq] at h
      subst h
      rw [segsVals_cons, List.getElem?_append_left (by rw [Seg.vals_len]; omega)]
      exact cellOf_spec ρ (by omega)
theorem ik_inj {j k : IntKind} (h : Nat.beq (ik j) (ik k) = true) : j = k := by
  have := Nat.eq_of_beq_eq_true h
  cases j <;> cases k <;> first | rfl | (simp [ik] at this)
theorem putOf_spec (ρ : Nat → Loc) {y x : Seg} {off : Nat} {r : List Seg} (hy : y.width = 1) (hc : ∀ ρ, y.vals ρ = [y.conc ρ]) (h : putOf off y x = some r) (hw : off < x.width) : segsVals ρ r = (x.vals ρ).set off (y.conc ρ) := by
  cases x
  case num m =>
    simp only [putOf] at h
    split at h
    · rename_i k z
      split at h
      · rename_i hk
        have := ik_inj (k := .u64) hk
        subst this
        simp only [Option.some.injEq] at h
        subst h
        simp [segsVals_one, Seg.vals, Seg.conc, List.map_set]
      · cases h
    · cases h
  case arr j zs =>
    simp only [putOf] at h
    split at h
    · rename_i k z
      split at h
      · rename_i hk
        have := ik_inj hk
        subst this
        simp only [Option.some.injEq] at h
        subst h
        simp [segsVals_one, Seg.vals, Seg.conc, List.map_set]
      · cases h
    · cases h
  case ap j F n =>
    simp only [putOf] at h
    split at h
    · rename_i k z
      split at h
      · rename_i hk
        have := ik_inj hk
        subst this
        simp only [Option.some.injEq] at h
        subst h
        simp [segsVals_one, Seg.vals, Seg.conc, List.map_set]
      · cases h
    · cases h
  all_goals
    simp only [Seg.width] at hw
    obtain rfl : off = 0 := by omega
    simp only [putOf, Option.some.injEq] at h
    subst h
    rw [segsVals_one, hc]
    rfl
theorem putCell_spec (ρ : Nat → Loc) {y : Seg} (hy : y.width = 1) (hc : ∀ ρ, y.vals ρ = [y.conc ρ]) : ∀ (l : List Seg) (off : Nat) (r : List Seg), putCell y l off = some r → segsVals ρ r = (segsVals ρ l).set off (y.conc ρ) ∧ off < (segsVals ρ l).length
  | [], _, _, h => by simp [putCell] at h
  | x :: l, off, r, h => by
    unfold putCell at h
    split at h
    · rename_i hw
      replace hw := Nat.le_of_ble_eq_true hw
      split at h
      · rename_i r' h'
        simp only [Option.some.injEq] at h
        subst h
        obtain ⟨e1, e2⟩ := putCell_spec ρ hy hc l _ _ h'
        rw [segsVals_cons, segsVals_cons, e1, List.set_append_right _ _ (by rw [Seg.vals_len]; exact hw), Seg.vals_len]
        refine ⟨rfl, ?_⟩
        rw [List.length_append, Seg.vals_len]; omega
      · cases h
    · rename_i hw
      replace hw : ¬ x.width ≤ off := fun hc => by rw [Nat.ble_eq_true_of_le hc] at hw; cases hw
      split at h
      · rename_i r' h'
        simp only [Option.some.injEq] at h
        subst h
        rw [segsVals_append, segsVals_cons, putOf_spec ρ hy hc h' (by omega), List.set_append_left _ _ (by rw [Seg.vals_len]; omega)]
        refine ⟨rfl, ?_⟩
        rw [List.length_append, Seg.vals_len]; omega
      · cases h
theorem putSegs_spec (ρ : Nat → Loc) {l news r : List Seg} {off : Nat} (h : putSegs l off news = some r) : segsVals ρ r = (segsVals ρ l).take off ++ segsVals ρ news ++ (segsVals ρ l).drop (off + (segsVals ρ news).length) ∧ off + (segsVals ρ news).length ≤ (segsVals ρ l).length := by
  unfold putSegs at h
  split at h
  · rename_i a t h1
    split at h
    · rename_i m c h2
      simp only [Option.some.injEq] at h
      subst h
      obtain ⟨e1, e2⟩ := cut_spec ρ _ _ _ _ h1
      obtain ⟨e3, e4⟩ := cut_spec ρ _ _ _ _ h2
      rw [segsVals_append, segsVals_append, ← e1, ← e2, List.take_left, ← e3, segsVals_len ρ news, ← e4]
      have e5 : (segsVals ρ a ++ (segsVals ρ m ++ segsVals ρ c)).drop ((segsVals ρ a).length + (segsVals ρ m).length) = segsVals ρ c := by
        rw [← List.append_assoc, ← List.length_append, List.drop_left]
      rw [e5]
      refine ⟨rfl, ?_⟩
      simp only [List.length_append]
      omega
    · cases h
  · cases h
theorem join_spec (ρ : Nat → Loc) (a b : List Seg) : segsVals ρ (join a b) = segsVals ρ a ++ segsVals ρ b := by
  unfold join
  split
  · simp [segsVals_one, Seg.vals, Seg.conc, segsVals_nil]
  · split
    · rename_i h
      have := ik_inj h
      subst this
      simp [segsVals_one, Seg.vals, Seg.conc]
    · simp [segsVals_cons, segsVals_nil]
  · split
    · rename_i h
      have := ik_inj h
      subst this
      simp [segsVals_one, Seg.vals]
    · simp [segsVals_cons, segsVals_nil]
  · exact segsVals_append ρ _ _
theorem mkAgg_conc (ρ : Nat → Loc) (l : List Seg) : (mkAgg l).conc ρ = .agg (segsVals ρ l).toArray := by
  unfold mkAgg
  split
  · simp [AV.conc, Seg.conc, segsVals_one, Seg.vals]
  · simp [AV.conc, Seg.conc, segsVals_one, Seg.vals]
  · simp [AV.conc, Seg.conc, segsVals_one, Seg.vals]
  · rfl
theorem mkAgg_segs (l : List Seg) : (mkAgg l).segs = l := by
  unfold mkAgg
  split <;> rfl
theorem intsOf_spec (ρ : Nat → Loc) {k : IntKind} : ∀ (l : List Seg) (zs : List Int), intsOf k l = some zs → segsVals ρ l = zs.map (Value.int k)
  | [], zs, h => by simp only [intsOf, Option.some.injEq] at h; subst h; rfl
  | .v (.int j z) :: l, zs, h => by
    simp only [intsOf] at h
    split at h
    · rename_i r hk hr
      have := ik_inj hk
      subst this
      simp only [Option.some.injEq] at h
      subst h
      rw [segsVals_cons, intsOf_spec ρ l _ hr]
      rfl
    · cases h
  | .arr j ys :: l, zs, h => by
    simp only [intsOf] at h
    split at h
    · rename_i r hk hr
      have := ik_inj hk
      subst this
      simp only [Option.some.injEq] at h
      subst h
      rw [segsVals_cons, intsOf_spec ρ l _ hr]
      simp [Seg.vals]
    · cases h
  | .ap j F n :: l, zs, h => by
    simp only [intsOf] at h
    split at h
    · rename_i r hk hr
      have := ik_inj hk
      subst this
      simp only [Option.some.injEq] at h
      subst h
      rw [segsVals_cons, intsOf_spec ρ l _ hr]
      simp [Seg.vals]
    · cases h
  | .v (.bool _) :: _, _, h | .v (.float _ _) :: _, _, h | .v (.complex _ _ _) :: _, _, h | .v (.string _) :: _, _, h | .v (.pointer _) :: _, _, h | .v (.slice _ _ _) :: _, _, h | .v (.map _) :: _, _, h | .v (.chan _) :: _, _, h | .v (.func _ _ _) :: _, _, h | .v .nilFunc :: _, _, h | .v (.iface _ _) :: _, _, h | .v .nilIface :: _, _, h | .v (.agg _) :: _, _, h | .v (.tuple _) :: _, _, h | .num _ :: _, _, h | .p _ _ :: _, _, h | .s _ _ _ _ :: _, _, h | .r _ _ _ _ :: _, _, h => by simp [intsOf] at h
theorem word_four {a b c d : Nat} (ha : a < 18446744073709551616) (hb : b < 18446744073709551616) (hc : c < 18446744073709551616) (hd : d < 18446744073709551616) : words (a + 18446744073709551616 * b + 340282366920938463463374607431768211456 * c + 6277101735386680763835789423207666416102355444464034512896 * d) = [(a : Int), b, c, d] := by
  have e1 : (18446744073709551616 : Nat) ^ 0 = 1 := rfl
  have e2 : (18446744073709551616 : Nat) ^ 1 = 18446744073709551616 := rfl
  have e3 : (18446744073709551616 : Nat) ^ 2 = 340282366920938463463374607431768211456 := by decide +kernel
  have e4 : (18446744073709551616 : Nat) ^ 3 = 6277101735386680763835789423207666416102355444464034512896 := by decide +kernel
  simp only [words, word, e1, e2, e3, e4, List.cons.injEq, Int.natCast_inj, and_true]
  refine ⟨?_, ?_, ?_, ?_⟩ <;> omega
theorem normNum_conc (ρ : Nat → Loc) (l : List Seg) : (normNum l).conc ρ = .agg (segsVals ρ l).toArray := by
  unfold normNum
  split
  · rename_i a b c d h
    split
    · rename_i hb
      simp only [Bool.and_eq_true] at hb
      have hlt : ∀ {n : Nat}, b64 n = true → n < 18446744073709551616 := fun h => Nat.lt_of_succ_le (Nat.le_of_ble_eq_true h)
      rw [intsOf_spec ρ l _ h]
      simp only [AV.conc, Seg.conc]
      rw [word_four (hlt hb.1.1.1) (hlt hb.1.1.2) (hlt hb.1.2) (hlt hb.2)]
      rfl
    · exact mkAgg_conc ρ l
  · exact mkAgg_conc ρ l
/-- The cells of a value. -/
theorem AV.cells (ρ : Nat → Loc) {a : AV} (h : segsOk a.segs = true) : (a.conc ρ).cells = (segsVals ρ a.segs).toArray := by
  cases a with
  | agg l => rfl
  | one s =>
    cases s
    case v x =>
      simp only [AV.segs, segsOk, List.all_cons, List.all_nil, Bool.and_true, Seg.ok] at h
      cases x <;> first | rfl | (simp [cellB] at h)
    all_goals simp [AV.conc, Seg.conc, Value.cells, AV.segs, segsVals_one, Seg.vals]
theorem Seg.vals_cell (ρ : Nat → Loc) {s : Seg} (h : s.ok = true) : ∀ u ∈ s.vals ρ, u.oneCell' = true := by
  intro u hu
  cases s
  case num m => simp only [Seg.vals, List.mem_map] at hu; obtain ⟨z, _, rfl⟩ := hu; rfl
  case arr k zs => simp only [Seg.vals, List.mem_map] at hu; obtain ⟨z, _, rfl⟩ := hu; rfl
  case ap k F n => simp only [Seg.vals, List.mem_map] at hu; obtain ⟨z, _, rfl⟩ := hu; rfl
  case v x =>
    simp only [Seg.vals, Seg.conc, List.mem_singleton] at hu
    subst hu
    simp only [Seg.ok] at h
    cases u <;> first | rfl | (simp [cellB] at h)
  all_goals
    simp only [Seg.vals, Seg.conc, List.mem_singleton] at hu
    subst hu
    rfl
theorem segsVals_cell (ρ : Nat → Loc) {l : List Seg} (h : segsOk l = true) : ∀ u ∈ segsVals ρ l, u.oneCell' = true := by
  intro u hu
  simp only [segsVals, List.mem_flatMap] at hu
  obtain ⟨s, hs, hu⟩ := hu
  exact Seg.vals_cell ρ (List.all_eq_true.1 h s hs) u hu
theorem look_mem {α : Type} : ∀ (l : List (Nat × α)) (n : Nat) (x : α), look l n = some x → (n, x) ∈ l
  | [], _, _, h => by cases h
  | (k, y) :: l, n, x, h => by
    unfold look at h
    split at h
    · rename_i hk
      have := Nat.eq_of_beq_eq_true hk
      simp only [Option.some.injEq] at h
      subst this h
      simp
    · exact List.mem_cons_of_mem _ (look_mem l n x h)

/-- A cell of a known block, behind its address. -/
theorem BlkOK.hasA {ρ : Nat → Loc} {w : World} {id : Nat} {b : Blk} (h : BlkOK ρ w id b) (hk : hasA b = true) : ∃ x, (ρ id).a = some x := by
  obtain ⟨k, ty, c⟩ := b
  unfold Am.hasA at hk
  unfold BlkOK at h
  match k, h, hk with
  | 0, h, _ =>
    obtain ⟨g, ha, _⟩ := h
    exact ⟨_, ha⟩
  | 1, _, hk => cases hk
  | k + 2, h, hk =>
    have h1 := Nat.le_of_ble_eq_true hk
    simp only at h1
    rcases h.2 with h2 | ⟨x, hx, _⟩
    · exfalso
      have := segsVals_len ρ c
      simp only at h2
      rw [h2] at this
      simp at this
      omega
    · exact ⟨x, hx⟩
theorem BlkOK.cells {ρ : Nat → Loc} {w : World} {id : Nat} {b : Blk} (h : BlkOK ρ w id b) {j : Nat} {u : Value} (hj : (segsVals ρ b.c)[j]? = some u) : ∃ x, (ρ id).a = some x ∧ w.cell? (x.add j) = some u := by
  obtain ⟨k, ty, c⟩ := b
  unfold BlkOK at h
  match k, h with
  | 0, ⟨g, ha, hg⟩ =>
    refine ⟨_, ha, ?_⟩
    rw [Addr.add_lit, cell_of_row w g (0 + j) _ ty (0, 0) hg]
    simpa using hj
  | 1, h =>
    have hjl := (List.getElem?_eq_some_iff.1 hj).1
    rcases h.2 with ⟨hv, hn⟩ | ⟨g, cap, cur, hv, hb, hg, hr⟩
    · simp only at hjl hn; omega
    · injection hv with hv _ _
      refine ⟨_, hv, ?_⟩
      have h' : w.ownsRow 0 ty 1 (.slice (some ⟨g, 0, none⟩) (segsVals ρ c).length (ρ id).cap) (segsVals ρ c).length (segsVals ρ c) := by
        have := h; rw [hv] at this; exact this
      exact h'.cells (g := g) rfl j u hj
  | k + 2, h =>
    rcases h.2 with h2 | ⟨x, hx, hc⟩
    · simp only at hj h2; rw [h2] at hj; cases hj
    · exact ⟨x, hx, hc j u hj⟩

end Go.Proofs.Ytkoackalpcmhaaa.Am
