/- The abstract machine: what its lists of cells say. Conditions: none. -/
import Derived.Test.YtmhmfmnjdbehcaaDoorZ1
import Derived.Laws.AppendOwn
import Derived.WalkSpells
import Derived.Laws.Tables
import Derived.Laws.BytesString
import Derived.Laws.MakeOwn
import Derived.Laws.IdiomStrings
set_option linter.unusedSectionVars false
namespace Go.Proofs.YtmhmfmnjdbehcaaDoor.Am
set_option linter.unusedVariables false
set_option linter.unusedSimpArgs false
open Go Go.RowKit

theorem Seg.vals_len (ρ : Nat → Loc) (s : Seg) : (s.vals ρ).length = s.width := by
  cases s <;> simp [Seg.vals, Seg.width, words]
theorem segsVals_nil (ρ : Nat → Loc) : segsVals ρ [] = [] := rfl
theorem segsVals_cons (ρ : Nat → Loc) (x : Seg) (l : List Seg) : segsVals ρ (x :: l) = x.vals ρ ++ segsVals ρ l := by simp [segsVals]
theorem segsVals_append (ρ : Nat → Loc) (a b : List Seg) : segsVals ρ (a ++ b) = segsVals ρ a ++ segsVals ρ b := by simp [segsVals]
theorem segsVals_one (ρ : Nat → Loc) (x : Seg) : segsVals ρ [x] = x.vals ρ := by simp [segsVals]
theorem segsVals_len (ρ : Nat → Loc) : ∀ (l : List Seg), (segsVals ρ l).length = widths l
  | [] => rfl
  | x :: l => by rw [segsVals_cons, List.length_append, Seg.vals_len, segsVals_len ρ l]; rfl

theorem cut_spec (ρ : Nat → Loc) : ∀ (l : List Seg) (n : Nat) (a b : List Seg), cut l n = some (a, b) → segsVals ρ a ++ segsVals ρ b = segsVals ρ l ∧ (segsVals ρ a).length = n
  | [], 0, a, b, h => by
    simp only [cut, Option.some.injEq, Prod.mk.injEq] at h
    obtain ⟨rfl, rfl⟩ := h
    exact ⟨rfl, rfl⟩
  | [], n + 1, a, b, h => by simp [cut] at h
  | x :: l, 0, a, b, h => by
    simp only [cut, Option.some.injEq, Prod.mk.injEq] at h
    obtain ⟨rfl, rfl⟩ := h
    exact ⟨rfl, rfl⟩
  | x :: l, n + 1, a, b, h => by
    unfold cut at h
    split at h
    · rename_i hw
      replace hw := Nat.le_of_ble_eq_true hw
      split at h
      · rename_i a' b' h'
        simp only [Option.some.injEq, Prod.mk.injEq] at h
        obtain ⟨rfl, rfl⟩ := h
        obtain ⟨h1, h2⟩ := cut_spec ρ l _ _ _ h'
        rw [segsVals_cons, segsVals_cons, List.append_assoc, h1]
        refine ⟨rfl, ?_⟩
        rw [List.length_append, h2, Seg.vals_len]
        omega
      · cases h
    · rename_i hw
      replace hw : ¬ x.width ≤ n + 1 := fun hc => by rw [Nat.ble_eq_true_of_le hc] at hw; cases hw
      split at h
      · rename_i m
        simp only [Option.some.injEq, Prod.mk.injEq] at h
        obtain ⟨rfl, rfl⟩ := h
        rw [segsVals_one, segsVals_cons, segsVals_cons, ← List.append_assoc]
        have e : Seg.vals ρ (.arr .u64 ((words m).take (n + 1))) ++ Seg.vals ρ (.arr .u64 ((words m).drop (n + 1))) = Seg.vals ρ (.num m) := by
          simp only [Seg.vals]
          rw [← List.map_append, List.take_append_drop]
        rw [e]
        refine ⟨rfl, ?_⟩
        simp only [Seg.width] at hw
        simp only [Seg.vals, List.length_map, List.length_take, words, List.length_cons, List.length_nil]
        omega
      · rename_i k zs
        simp only [Option.some.injEq, Prod.mk.injEq] at h
        obtain ⟨rfl, rfl⟩ := h
        rw [segsVals_one, segsVals_cons, segsVals_cons, ← List.append_assoc]
        have e : Seg.vals ρ (.arr k (zs.take (n + 1))) ++ Seg.vals ρ (.arr k (zs.drop (n + 1))) = Seg.vals ρ (.arr k zs) := by
          simp only [Seg.vals]
          rw [← List.map_append, List.take_append_drop]
        rw [e]
        refine ⟨rfl, ?_⟩
        simp only [Seg.width] at hw
        simp only [Seg.vals, List.length_map, List.length_take]
        omega
      · rename_i k F m
        simp only [Option.some.injEq, Prod.mk.injEq] at h
        obtain ⟨rfl, rfl⟩ := h
        rw [segsVals_one, segsVals_cons, segsVals_cons, ← List.append_assoc]
        have e : Seg.vals ρ (.arr k ((F m).take (n + 1))) ++ Seg.vals ρ (.arr k ((F m).drop (n + 1))) = Seg.vals ρ (.ap k F m) := by
          simp only [Seg.vals]
          rw [← List.map_append, List.take_append_drop]
        rw [e]
        refine ⟨rfl, ?_⟩
        simp only [Seg.width] at hw
        simp only [Seg.vals, List.length_map, List.length_take]
        omega
      · cases h

theorem getSegs_spec (ρ : Nat → Loc) {l m : List Seg} {off n : Nat} (h : getSegs l off n = some m) : segsVals ρ m = ((segsVals ρ l).drop off).take n ∧ (segsVals ρ m).length = n := by
  unfold getSegs at h
  split at h
  · rename_i a r h1
    split at h
    · rename_i m' c h2
      simp only [Option.some.injEq] at h
      subst h
      obtain ⟨e1, e2⟩ := cut_spec ρ _ _ _ _ h1
      obtain ⟨e3, e4⟩ := cut_spec ρ _ _ _ _ h2
      refine ⟨?_, e4⟩
      rw [← e1, ← e2, List.drop_left, ← e3, ← e4, List.take_left]
    · cases h
  · cases h
theorem getSegs_at (ρ : Nat → Loc) {l m : List Seg} {off n : Nat} (h : getSegs l off n = some m) : ∀ j u, (segsVals ρ m)[j]? = some u → (segsVals ρ l)[off + j]? = some u := by
  intro j u hj
  obtain ⟨h1, h2⟩ := getSegs_spec ρ h
  have hlt : j < n := by rw [← h2]; exact (List.getElem?_eq_some_iff.1 hj).1
  rw [h1, List.getElem?_take_of_lt hlt, List.getElem?_drop] at hj
  exact hj
theorem cellOf_spec (ρ : Nat → Loc) {x : Seg} {off : Nat} (h : off < x.width) : (x.vals ρ)[off]? = some ((cellOf off x).conc ρ) := by
  cases x
  case num m =>
    simp only [Seg.width] at h
    have hl : off < (words m).length := by simp only [words, List.length_cons, List.length_nil]; omega
    simp [Seg.vals, cellOf, Seg.conc, List.getD_eq_getElem?_getD, List.getElem?_eq_getElem hl]
  case arr k zs =>
    simp only [Seg.width] at h
    simp [Seg.vals, cellOf, Seg.conc, List.getD_eq_getElem?_getD, List.getElem?_eq_getElem h]
  case ap k F n =>
    simp only [Seg.width] at h
    simp [Seg.vals, cellOf, Seg.conc, List.getD_eq_getElem?_getD, List.getElem?_eq_getElem h]
  case vs l =>
    simp only [Seg.width] at h
    simp [Seg.vals, cellOf, Seg.conc, List.getD_eq_getElem?_getD, List.getElem?_eq_getElem h]
  all_goals
    simp only [Seg.width] at h
    obtain rfl : off = 0 := by omega
    rfl
theorem cell_spec (ρ : Nat → Loc) : ∀ (l : List Seg) (off : Nat) (x : Seg), cell l off = some x → (segsVals ρ l)[off]? = some (x.conc ρ)
  | [], _, _, h => by simp [cell] at h
  | y :: l, off, x, h => by
    unfold cell at h
    split at h
    · rename_i hw
      replace hw := Nat.le_of_ble_eq_true hw
      rw [segsVals_cons, List.getElem?_append_right (by rw [Seg.vals_len]; exact hw), Seg.vals_len]
      exact cell_spec ρ l _ x h
    · rename_i hw
      replace hw : ¬ y.width ≤ off := fun hc => by rw [Nat.ble_eq_true_of_le hc] at hw; cases hw
      simp only [Option.some.injEq] at h
      subst h
      rw [segsVals_cons, List.getElem?_append_left (by rw [Seg.vals_len]; omega)]
      exact cellOf_spec ρ (by omega)
theorem ik_inj {j k : IntKind} (h : Nat.beq (ik j) (ik k) = true) : j = k := by
  have := Nat.eq_of_beq_eq_true h
  cases j <;> cases k <;> first | rfl | (simp [ik] at this)
theorem putOf_spec (ρ : Nat → Loc) {y x : Seg} {off : Nat} {r : List Seg} (hy : y.width = 1) (hc : ∀ ρ, y.vals ρ = [y.conc ρ]) (h : putOf off y x = some r) (hw : off < x.width) : segsVals ρ r = (x.vals ρ).set off (y.conc ρ) := by
  cases x
  case num m =>
    simp only [putOf] at h
    split at h
    · rename_i k z
      split at h
      · rename_i hk
        have := ik_inj (k := .u64) hk
        subst this
        simp only [Option.some.injEq] at h
        subst h
        simp [segsVals_one, Seg.vals, Seg.conc, List.map_set]
      · cases h
    · cases h
  case arr j zs =>
    simp only [putOf] at h
    split at h
    · rename_i k z
      split at h
      · rename_i hk
        have := ik_inj hk
        subst this
        simp only [Option.some.injEq] at h
        subst h
        simp [segsVals_one, Seg.vals, Seg.conc, List.map_set]
      · cases h
    · cases h
  case ap j F n =>
    simp only [putOf] at h
    split at h
    · rename_i k z
      split at h
      · rename_i hk
        have := ik_inj hk
        subst this
        simp only [Option.some.injEq] at h
        subst h
        simp [segsVals_one, Seg.vals, Seg.conc, List.map_set]
      · cases h
    · cases h
  case vs l => cases h
  all_goals
    simp only [Seg.width] at hw
    obtain rfl : off = 0 := by omega
    simp only [putOf, Option.some.injEq] at h
    subst h
    rw [segsVals_one, hc]
    rfl
theorem putCell_spec (ρ : Nat → Loc) {y : Seg} (hy : y.width = 1) (hc : ∀ ρ, y.vals ρ = [y.conc ρ]) : ∀ (l : List Seg) (off : Nat) (r : List Seg), putCell y l off = some r → segsVals ρ r = (segsVals ρ l).set off (y.conc ρ) ∧ off < (segsVals ρ l).length
  | [], _, _, h => by simp [putCell] at h
  | x :: l, off, r, h => by
    unfold putCell at h
    split at h
    · rename_i hw
      replace hw := Nat.le_of_ble_eq_true hw
      split at h
      · rename_i r' h'
        simp only [Option.some.injEq] at h
        subst h
        obtain ⟨e1, e2⟩ := putCell_spec ρ hy hc l _ _ h'
        rw [segsVals_cons, segsVals_cons, e1, List.set_append_right _ _ (by rw [Seg.vals_len]; exact hw), Seg.vals_len]
        refine ⟨rfl, ?_⟩
        rw [List.length_append, Seg.vals_len]; omega
      · cases h
    · rename_i hw
      replace hw : ¬ x.width ≤ off := fun hc => by rw [Nat.ble_eq_true_of_le hc] at hw; cases hw
      split at h
      · rename_i r' h'
        simp only [Option.some.injEq] at h
        subst h
        rw [segsVals_append, segsVals_cons, putOf_spec ρ hy hc h' (by omega), List.set_append_left _ _ (by rw [Seg.vals_len]; omega)]
        refine ⟨rfl, ?_⟩
        rw [List.length_append, Seg.vals_len]; omega
      · cases h
theorem putSegs_spec (ρ : Nat → Loc) {l news r : List Seg} {off : Nat} (h : putSegs l off news = some r) : segsVals ρ r = (segsVals ρ l).take off ++ segsVals ρ news ++ (segsVals ρ l).drop (off + (segsVals ρ news).length) ∧ off + (segsVals ρ news).length ≤ (segsVals ρ l).length := by
  unfold putSegs at h
  split at h
  · rename_i a t h1
    split at h
    · rename_i m c h2
      simp only [Option.some.injEq] at h
      subst h
      obtain ⟨e1, e2⟩ := cut_spec ρ _ _ _ _ h1
      obtain ⟨e3, e4⟩ := cut_spec ρ _ _ _ _ h2
      rw [segsVals_append, segsVals_append, ← e1, ← e2, List.take_left, ← e3, segsVals_len ρ news, ← e4]
      have e5 : (segsVals ρ a ++ (segsVals ρ m ++ segsVals ρ c)).drop ((segsVals ρ a).length + (segsVals ρ m).length) = segsVals ρ c := by
        rw [← List.append_assoc, ← List.length_append, List.drop_left]
      rw [e5]
      refine ⟨rfl, ?_⟩
      simp only [List.length_append]
      omega
    · cases h
  · cases h
theorem join_spec (ρ : Nat → Loc) (a b : List Seg) : segsVals ρ (join a b) = segsVals ρ a ++ segsVals ρ b := by
  unfold join
  split
  · simp [segsVals_one, Seg.vals, Seg.conc, segsVals_nil]
  · split
    · rename_i h
      have := ik_inj h
      subst this
      simp [segsVals_one, Seg.vals, Seg.conc]
    · simp [segsVals_cons, segsVals_nil]
  · split
    · rename_i h
      have := ik_inj h
      subst this
      simp [segsVals_one, Seg.vals]
    · simp [segsVals_cons, segsVals_nil]
  · exact segsVals_append ρ _ _
theorem mkAgg_conc (ρ : Nat → Loc) (l : List Seg) : (mkAgg l).conc ρ = .agg (segsVals ρ l).toArray := by
  unfold mkAgg
  split
  · simp [AV.conc, Seg.conc, segsVals_one, Seg.vals]
  · simp [AV.conc, Seg.conc, segsVals_one, Seg.vals]
  · simp [AV.conc, Seg.conc, segsVals_one, Seg.vals]
  · rfl
theorem mkAgg_segs (l : List Seg) : (mkAgg l).segs = l := by
  unfold mkAgg
  split <;> rfl
theorem intsOf_spec (ρ : Nat → Loc) {k : IntKind} : ∀ (l : List Seg) (zs : List Int), intsOf k l = some zs → segsVals ρ l = zs.map (Value.int k)
  | [], zs, h => by simp only [intsOf, Option.some.injEq] at h; subst h; rfl
  | .v (.int j z) :: l, zs, h => by
    simp only [intsOf] at h
    split at h
    · rename_i r hk hr
      have := ik_inj hk
      subst this
      simp only [Option.some.injEq] at h
      subst h
      rw [segsVals_cons, intsOf_spec ρ l _ hr]
      rfl
    · cases h
  | .arr j ys :: l, zs, h => by
    simp only [intsOf] at h
    split at h
    · rename_i r hk hr
      have := ik_inj hk
      subst this
      simp only [Option.some.injEq] at h
      subst h
      rw [segsVals_cons, intsOf_spec ρ l _ hr]
      simp [Seg.vals]
    · cases h
  | .ap j F n :: l, zs, h => by
    simp only [intsOf] at h
    split at h
    · rename_i r hk hr
      have := ik_inj hk
      subst this
      simp only [Option.some.injEq] at h
      subst h
      rw [segsVals_cons, intsOf_spec ρ l _ hr]
      simp [Seg.vals]
    · cases h
  | .v (.bool _) :: _, _, h | .v (.float _ _) :: _, _, h | .v (.complex _ _ _) :: _, _, h | .v (.string _) :: _, _, h | .v (.pointer _) :: _, _, h | .v (.slice _ _ _) :: _, _, h | .v (.map _) :: _, _, h | .v (.chan _) :: _, _, h | .v (.func _ _ _) :: _, _, h | .v .nilFunc :: _, _, h | .v (.iface _ _) :: _, _, h | .v .nilIface :: _, _, h | .v (.agg _) :: _, _, h | .v (.tuple _) :: _, _, h | .num _ :: _, _, h | .p _ _ :: _, _, h | .s _ _ _ _ :: _, _, h | .r _ _ _ _ :: _, _, h | .vs _ :: _, _, h => by simp [intsOf] at h
theorem word_four {a b c d : Nat} (ha : a < 18446744073709551616) (hb : b < 18446744073709551616) (hc : c < 18446744073709551616) (hd : d < 18446744073709551616) : words (a + 18446744073709551616 * b + 340282366920938463463374607431768211456 * c + 6277101735386680763835789423207666416102355444464034512896 * d) = [(a : Int), b, c, d] := by
  have e1 : (18446744073709551616 : Nat) ^ 0 = 1 := rfl
  have e2 : (18446744073709551616 : Nat) ^ 1 = 18446744073709551616 := rfl
  have e3 : (18446744073709551616 : Nat) ^ 2 = 340282366920938463463374607431768211456 := by decide +kernel
  have e4 : (18446744073709551616 : Nat) ^ 3 = 6277101735386680763835789423207666416102355444464034512896 := by decide +kernel
  simp only [words, word, e1, e2, e3, e4, List.cons.injEq, Int.natCast_inj, and_true]
  refine ⟨?_, ?_, ?_, ?_⟩ <;> omega
theorem normNum_conc (ρ : Nat → Loc) (l : List Seg) : (normNum l).conc ρ = .agg (segsVals ρ l).toArray := by
  unfold normNum
  split
  · rename_i x y z u h
    split
    · rename_i a b c d
      split
      · rename_i hb
        simp only [Bool.and_eq_true] at hb
        have hlt : ∀ {n : Nat}, b64 n = true → n < 18446744073709551616 := fun h => Nat.lt_of_succ_le (Nat.le_of_ble_eq_true h)
        rw [intsOf_spec ρ l _ h]
        simp only [AV.conc, Seg.conc]
        rw [word_four (hlt hb.1.1.1) (hlt hb.1.1.2) (hlt hb.1.2) (hlt hb.2)]
        rfl
      · exact mkAgg_conc ρ l
    · exact mkAgg_conc ρ l
  · exact mkAgg_conc ρ l
/-- The cells of a value. -/
theorem AV.cells (ρ : Nat → Loc) {a : AV} (h : segsOk a.segs = true) : (a.conc ρ).cells = (segsVals ρ a.segs).toArray := by
  cases a with
  | agg l => rfl
  | one s =>
    cases s
    case v x =>
      simp only [AV.segs, segsOk, List.all_cons, List.all_nil, Bool.and_true, Seg.ok] at h
      cases x <;> first | rfl | (simp [cellB] at h)
    all_goals simp [AV.conc, Seg.conc, Value.cells, AV.segs, segsVals_one, Seg.vals]
theorem Seg.vals_cell (ρ : Nat → Loc) {s : Seg} (h : s.ok = true) : ∀ u ∈ s.vals ρ, u.oneCell' = true := by
  intro u hu
  cases s
  case num m => simp only [Seg.vals, List.mem_map] at hu; obtain ⟨z, _, rfl⟩ := hu; rfl
  case arr k zs => simp only [Seg.vals, List.mem_map] at hu; obtain ⟨z, _, rfl⟩ := hu; rfl
  case ap k F n => simp only [Seg.vals, List.mem_map] at hu; obtain ⟨z, _, rfl⟩ := hu; rfl
  case vs l =>
    simp only [Seg.vals] at hu
    have := List.all_eq_true.1 h u hu
    cases u <;> first | rfl | (simp [cellB] at this)
  case v x =>
    simp only [Seg.vals, Seg.conc, List.mem_singleton] at hu
    subst hu
    simp only [Seg.ok] at h
    cases u <;> first | rfl | (simp [cellB] at h)
  all_goals
    simp only [Seg.vals, Seg.conc, List.mem_singleton] at hu
    subst hu
    rfl
theorem segsVals_cell (ρ : Nat → Loc) {l : List Seg} (h : segsOk l = true) : ∀ u ∈ segsVals ρ l, u.oneCell' = true := by
  intro u hu
  simp only [segsVals, List.mem_flatMap] at hu
  obtain ⟨s, hs, hu⟩ := hu
  exact Seg.vals_cell ρ (List.all_eq_true.1 h s hs) u hu
theorem look_mem {α : Type} : ∀ (l : List (Nat × α)) (n : Nat) (x : α), look l n = some x → (n, x) ∈ l
  | [], _, _, h => by cases h
  | (k, y) :: l, n, x, h => by
    unfold look at h
    split at h
    · rename_i hk
      have := Nat.eq_of_beq_eq_true hk
      simp only [Option.some.injEq] at h
      subst this h
      simp
    · exact List.mem_cons_of_mem _ (look_mem l n x h)

/-- A cell of a known block, behind its address. -/
theorem BlkOK.hasA {ρ : Nat → Loc} {w : World} {id : Nat} {b : Blk} (h : BlkOK ρ w id b) (hk : hasA b = true) : ∃ x, (ρ id).a = some x := by
  obtain ⟨k, ty, c⟩ := b
  unfold Am.hasA at hk
  unfold BlkOK at h
  match k, h, hk with
  | 0, h, _ =>
    obtain ⟨g, ha, _⟩ := h
    exact ⟨_, ha⟩
  | 1, _, hk => cases hk
  | k + 2, h, hk =>
    have h1 := Nat.le_of_ble_eq_true hk
    simp only at h1
    rcases h.2 with h2 | ⟨x, hx, _⟩
    · exfalso
      have := segsVals_len ρ c
      simp only at h2
      rw [h2] at this
      simp at this
      omega
    · exact ⟨x, hx⟩
theorem BlkOK.cells {ρ : Nat → Loc} {w : World} {id : Nat} {b : Blk} (h : BlkOK ρ w id b) {j : Nat} {u : Value} (hj : (segsVals ρ b.c)[j]? = some u) : ∃ x, (ρ id).a = some x ∧ w.cell? (x.add j) = some u := by
  obtain ⟨k, ty, c⟩ := b
  unfold BlkOK at h
  match k, h with
  | 0, ⟨g, ha, hg⟩ =>
    refine ⟨_, ha, ?_⟩
    rw [Addr.add_lit, cell_of_row w g (0 + j) _ ty (0, 0) hg]
    simpa using hj
  | 1, h =>
    have hjl := (List.getElem?_eq_some_iff.1 hj).1
    rcases h.2 with ⟨hv, hn⟩ | ⟨g, cap, cur, hv, hb, hg, hr⟩
    · simp only at hjl hn; omega
    · injection hv with hv _ _
      refine ⟨_, hv, ?_⟩
      have h' : w.ownsRow 0 ty 1 (.slice (some ⟨g, 0, none⟩) (segsVals ρ c).length (ρ id).cap) (segsVals ρ c).length (segsVals ρ c) := by
        have := h; rw [hv] at this; exact this
      exact h'.cells (g := g) rfl j u hj
  | k + 2, h =>
    rcases h.2 with h2 | ⟨x, hx, hc⟩
    · simp only at hj h2; rw [h2] at hj; cases hj
    · exact ⟨x, hx, hc j u hj⟩

end Go.Proofs.YtmhmfmnjdbehcaaDoor.Am
/- The abstract machine: an operation's own run comes to what was reckoned. Conditions: none. -/
namespace Go.Proofs.YtmhmfmnjdbehcaaDoor.Am
set_option linter.unusedVariables false
set_option linter.unusedSimpArgs false
open Go Go.RowKit
open Rg (gives)

def UOK (P : Program) (t : Nat) : U → Prop
  | .int k => P.underlying t = some (.int k)
  | .bool => P.underlying t = some .bool
  | .str => P.underlying t = some .string
  | .arr n e => P.underlying t = some (.array n e)
  | .st fs => ∃ fields : Array Field, P.underlying t = some (.struct fields) ∧ fs = (fields.toList.map fun f => (f.offset, f.type)) ∧ ∃ pls, fields.toList.mapM (fun f => (P.info? f.type).map fun i => (f.offset, i.size)) = some pls
  | .sl e => P.underlying t = some (.slice e)
  | .ptr e => P.underlying t = some (.pointer e)
  | .oth => ∃ d, P.underlying t = some d ∧ (match d with | .struct _ | .array _ _ => false | _ => true) = true
def noLoc : Nat → Loc := fun _ => ⟨none, 0⟩
structure TyOK (P : Program) (t : Nat) (ty : Ty) : Prop where
  info : ∃ i, P.info? t = some i ∧ i.size = ty.size ∧ i.bytes = ty.bytes ∧ i.zero = some (ty.zero.conc noLoc)
  none_ : segsIn (fun _ => False) ty.zero.segs
  zok : segsOk ty.zero.segs = true
  zsz : widths ty.zero.segs = ty.size
  und : UOK P t ty.u
  eqk : ∀ k, ty.eqk = some k → P.eqGuardType P.depth t = false ∧ ∃ n e i, ty.u = .arr n e ∧ P.underlying e = some (.int k) ∧ P.plainKey e = true ∧ P.info? e = some i ∧ i.size = 1
def TOK (P : Program) (T : List (Nat × Ty)) : Prop := ∀ t ty, look T t = some ty → TyOK P t ty

theorem TyOK.agg {P : Program} {t : Nat} {ty : Ty} (h : TyOK P t ty) (w : World) : (isAgg t).run P w = .ok ty.u.agg w := by
  have hu := h.und
  unfold isAgg
  rw [Sem.run_bind]
  cases hq : ty.u with
  | oth =>
    rw [hq] at hu
    obtain ⟨d, hd, hm⟩ := hu
    rw [run_underlying hd]
    cases d <;> simp_all [U.agg]
  | st fs =>
    rw [hq] at hu
    obtain ⟨d, hd, _⟩ := hu
    rw [run_underlying hd]
    rfl
  | _ =>
    rw [hq] at hu
    rw [run_underlying hu]
    rfl
theorem TyOK.zero_conc {P : Program} {t : Nat} {ty : Ty} (h : TyOK P t ty) (ρ : Nat → Loc) : ty.zero.conc ρ = ty.zero.conc noLoc := AV.conc_congr (D := fun _ => False) (fun _ hf => hf.elim) h.none_
theorem TyOK.run_zero {P : Program} {t : Nat} {ty : Ty} (h : TyOK P t ty) (ρ : Nat → Loc) (w : World) : (zeroValue t).run P w = .ok (ty.zero.conc ρ) w := by
  obtain ⟨i, hi, _, _, hz⟩ := h.info
  rw [h.zero_conc ρ]
  simp [zeroValue, typeInfo, hi, hz]
theorem TyOK.run_size {P : Program} {t : Nat} {ty : Ty} (h : TyOK P t ty) (w : World) : (sizeOf t).run P w = .ok ty.size w := by
  obtain ⟨i, hi, hs, _⟩ := h.info
  simp [sizeOf, typeInfo, hi, hs]

/-- A new block, or a block's new contents, or none any more. -/
def appl (G : Nat → Option Blk) (base : Nat) (r : Res) : Nat → Option Blk := fun id =>
  match look r.upd id with
  | some b => b
  | none => if base ≤ id ∧ id < base + r.new.length then r.new[id - base]? else G id
def Dn (D : Nat → Prop) (base n : Nat) : Nat → Prop := fun id => D id ∨ (base ≤ id ∧ id < base + n)

structure Fits [GT] (ρ : Nat → Loc) (D : Nat → Prop) (N : Nat) (M : List Nat) (G : Nat → Option Blk) (base : Nat) (r : Res) (w : World) (ρ' : Nat → Loc) (v : Value) (w' : World) : Prop where
  agree : ∀ id, D id → ρ' id = ρ id
  val : v = r.val.conc ρ'
  hr : HR ρ' (Dn D base r.new.length) N M (appl G base r) w'
  kept : Kept N M w w'
  fresh : r.upd = [] → Below w.heap.size w w' ∧ ∀ k b x, r.new[k]? = some b → (ρ' (base + k)).a = some x → w.heap.size ≤ x.block

section
variable {P : Program} {ρ : Nat → Loc} {D : Nat → Prop} {N : Nat} {M : List Nat} {G : Nat → Option Blk} {base : Nat} {w : World} {o : Oper} {a : Act}
variable [GT]

theorem HR.monoD {D' : Nat → Prop} (h : HR ρ D N M G w) (hD : ∀ id, D id → D' id) : HR ρ D' N M G w :=
  ⟨h.size, fun id b hb => let ⟨h1, h2, h3⟩ := h.blk id b hb; ⟨hD id h1, h2.mono hD, h3⟩, h.lt, h.own, h.dist, h.gw⟩

theorem fits_same (hG : HR ρ D N M G w) {r : Res} {v : Value} (hv : v = r.val.conc ρ) (hn : r.new = []) (hu : r.upd = []) : Fits ρ D N M G base r w ρ v w := by
  refine ⟨fun _ _ => rfl, hv, ?_, Kept.refl _ _ _, fun _ => ⟨Below.refl _ _, fun k b x hk => by rw [hn] at hk; cases hk⟩⟩
  have : appl G base r = G := by
    funext id
    unfold appl
    rw [hu, hn]
    simp only [look, List.length_nil]
    rw [if_neg (by omega)]
  rw [this]
  exact hG.monoD fun id h => .inl h

omit [GT] in
def up (ρ : Nat → Loc) (id : Nat) (l : Loc) : Nat → Loc := fun i => if i = id then l else ρ i
omit [GT] in
theorem up_self (ρ : Nat → Loc) (id : Nat) (l : Loc) : up ρ id l id = l := if_pos rfl
omit [GT] in
theorem up_agree {ρ : Nat → Loc} {id : Nat} {l : Loc} (hf : ¬ D id) : ∀ i, D i → up ρ id l i = ρ i := fun i hi => by
  unfold up
  rw [if_neg]
  intro e
  exact hf (e ▸ hi)

/-- A new block of one's own. -/
theorem fits_new (hG : HR ρ D N M G w) {t : TypeId} {c : List Seg} (hf : ¬ D base) (hin : segsIn D c) {r : Res} {v : Value} (hn : r.new = [⟨0, t, c⟩]) (hu : r.upd = [])
    (hv : v = r.val.conc (up ρ base ⟨some ⟨w.heap.size, 0, none⟩, 0⟩)) : Fits ρ D N M G base r w (up ρ base ⟨some ⟨w.heap.size, 0, none⟩, 0⟩) v (w.alloc (.cells (segsVals ρ c).toArray t)) := by
  have hag : ∀ i, D i → up ρ base ⟨some ⟨w.heap.size, 0, none⟩, 0⟩ i = ρ i := up_agree hf
  refine ⟨hag, hv, ?_, Kept.of_below ((Below.refl _ _).alloc hG.size _), fun _ => ⟨(Below.refl _ _).alloc (Nat.le_refl _) _, fun k b x hk hx => ?_⟩⟩
  rotate_left
  · rw [hn] at hk
    cases k with
    | zero =>
      simp only [Nat.add_zero, up_self] at hx
      injection hx with hx
      subst hx
      exact Nat.le_refl _
    | succ k => simp at hk
  have ha : ∀ id, appl G base r id = if id = base then some ⟨0, t, c⟩ else G id := fun id => by
    unfold appl
    rw [hu, hn]
    simp only [look, List.length_cons, List.length_nil]
    by_cases h : id = base
    · subst h; simp
    · rw [if_neg (by omega), if_neg h]
  have hgn : (w.alloc (.cells (segsVals ρ c).toArray t)).heap[w.heap.size]? = some (.cells (segsVals ρ c).toArray t (0, 0)) := heap_new _ _
  refine hG.step (U := fun id => id = base) hag (fun id h => .inl h) (Kept.of_below ((Below.refl _ _).alloc hG.size _)) (fun id b hb hU => ?_) (fun id b x hb hU hx => ?_) (fun id b hb hU => ?_) (fun id b x hb hU hx => ?_) (fun id b x hb hU hk hx => ?_) (fun i j bi bj x y hi hj hij hU hk hx hy => ?_)
  · rw [ha, if_neg hU] at hb; exact hb
  · rw [ha, if_neg hU] at hb
    exact Below.heap_alloc _ _ _ (hG.lt id b x hb hx)
  · subst hU
    rw [ha, if_pos rfl] at hb
    injection hb with hb
    subst hb
    refine ⟨.inr ⟨Nat.le_refl _, by rw [hn]; simp⟩, hin.mono fun i h => .inl h, ?_⟩
    refine ⟨w.heap.size, by rw [up_self], ?_⟩
    rw [segsVals_congr hag hin]
    exact hgn
  · subst hU
    rw [up_self] at hx
    injection hx with hx
    subst hx
    simp
  · subst hU
    rw [up_self] at hx
    injection hx with hx
    subst hx
    exact .inl hG.size
  · rw [ha] at hi hj
    by_cases h1 : i = base
    · subst h1
      rw [if_neg fun e => hij e.symm] at hj
      rw [up_self] at hx
      injection hx with hx
      subst hx
      have hj2 := (hG.blk j bj hj).1
      rw [hag j hj2] at hy
      have := hG.lt j bj y hj hy
      simp only; omega
    · have h2 : j = base := hU.resolve_left h1
      subst h2
      rw [if_neg h1] at hi
      rw [up_self] at hy
      injection hy with hy
      subst hy
      have hi2 := (hG.blk i bi hi).1
      rw [hag i hi2] at hx
      have := hG.lt i bi x hi hx
      simp only; omega

/-- New contents of a block of one's own, or of a row. -/
theorem fits_put2 (hG : HR ρ D N M G w) {id : Nat} {b b2 : Blk} (hb : G id = some b) (hk : b.k < 2) {r : Res} {v : Value} (hn : r.new = []) (hu : r.upd = [(id, some b2)]) (hv : v = r.val.conc ρ)
    {g : Nat} (hg : (ρ id).a = some ⟨g, 0, none⟩) {cs : Array Value} (hin : segsIn D b2.c) (hok : BlkOK ρ (w.setRow g cs) id b2) : Fits ρ D N M G base r w ρ v (w.setRow g cs) := by
  have hgo := hG.own id b _ hb hk hg
  simp only at hgo
  have hw : ∀ k, k ≠ g → (w.setRow g cs).heap[k]? = w.heap[k]? := fun k hk => setRow_other w g k _ hk
  have hsz : (w.setRow g cs).heap.size = w.heap.size := by simp [World.setRow]
  have hkp : Kept N M w (w.setRow g cs) := ⟨rfl, rfl, rfl, Nat.le_of_eq hsz.symm, fun k hk hm => hw k fun e => by
    subst e
    rcases hgo with h | h
    · omega
    · exact hm h⟩
  refine ⟨fun _ _ => rfl, hv, ?_, hkp, fun hnil => by rw [hu] at hnil; cases hnil⟩
  · have ha : ∀ i, appl G base r i = if i = id then some b2 else G i := fun i => by
      unfold appl
      rw [hu, hn]
      simp only [look, List.length_nil]
      by_cases h : i = id
      · subst h; simp
      · have : Nat.beq id i = false := by
          cases hq : Nat.beq id i
          · rfl
          · exact absurd (Nat.eq_of_beq_eq_true hq).symm h
        rw [this, if_neg h]
        simp only
        rw [if_neg (by omega)]
    refine hG.step (U := fun i => i = id) (fun _ _ => rfl) (fun i h => .inl h) hkp (fun i b' hb' hU => ?_) (fun i b' x hb' hU hx => ?_) (fun i b' hb' hU => ?_) (fun i b' x hb' hU hx => ?_) (fun i b' x hb' hU hk hx => ?_) (fun i j bi bj x y hi hj hij hU hk hx hy => ?_)
    · rw [ha, if_neg hU] at hb'; exact hb'
    · rw [ha, if_neg hU] at hb'
      refine hw _ fun e => ?_
      have := hG.dist id i b b' _ x hb hb' (fun e => hU e.symm) hk hg hx
      exact this e.symm
    · subst hU
      rw [ha, if_pos rfl] at hb'
      injection hb' with hb'
      subst hb'
      exact ⟨.inl (hG.blk i b hb).1, hin.mono fun i h => .inl h, hok⟩
    · subst hU
      rw [hsz]
      exact hG.lt i b x hb hx
    · subst hU
      exact hG.own i b x hb ‹b.k < 2› hx
    · rw [ha] at hi hj
      by_cases h1 : i = id
      · subst h1
        rw [if_neg fun e => hij e.symm] at hj
        exact hG.dist i j b bj x y hb hj hij ‹b.k < 2› hx hy
      · have h2 : j = id := hU.resolve_left h1
        subst h2
        rw [if_neg h1] at hi
        exact hG.dist i j bi b x y hi hb hij hk hx hy
theorem fits_put (hG : HR ρ D N M G w) {id : Nat} {b : Blk} (hb : G id = some b) (hk : b.k = 0) {c : List Seg} (hin : segsIn D c) {r : Res} {v : Value} (hn : r.new = []) (hu : r.upd = [(id, some ⟨0, b.ty, c⟩)]) (hv : v = r.val.conc ρ)
    {g : Nat} (hg : (ρ id).a = some ⟨g, 0, none⟩) (hlen : w.heap[g]? = some (.cells (segsVals ρ b.c).toArray b.ty (0, 0))) : Fits ρ D N M G base r w ρ v (w.setRow g (segsVals ρ c).toArray) :=
  fits_put2 hG hb (by omega) hn hu hv hg hin ⟨g, hg, setRow_heap w g _ _ _ _ hlen⟩

/-- One new block behind a call that leaves old memory alone. -/
theorem fits_fresh {w w' : World} (hG : HR ρ D N M G w) (hb : Below w.heap.size w w') {b : Blk} {l : Loc} {r : Res} {v : Value} (hf : ¬ D base) (hn : r.new = [b]) (hu : r.upd = []) (hin : segsIn D b.c) (hok : BlkOK (up ρ base l) w' base b) (hfr : ∀ x, l.a = some x → w.heap.size ≤ x.block ∧ x.block < w'.heap.size) (hv : v = r.val.conc (up ρ base l)) : Fits ρ D N M G base r w (up ρ base l) v w' := by
  have hag : ∀ i, D i → up ρ base l i = ρ i := up_agree hf
  refine ⟨hag, hv, ?_, Kept.of_below (hb.mono hG.size), fun _ => ⟨hb, fun k b' x hk hx => ?_⟩⟩
  · have ha : ∀ id, appl G base r id = if id = base then some b else G id := fun id => by
      unfold appl
      rw [hu, hn]
      simp only [look, List.length_cons, List.length_nil]
      by_cases h : id = base
      · subst h; simp
      · rw [if_neg (by omega), if_neg h]
    refine hG.step (U := fun id => id = base) hag (fun id h => .inl h) (Kept.of_below (hb.mono hG.size)) (fun id b' hb' hU => ?_) (fun id b' x hb' hU hx => ?_) (fun id b' hb' hU => ?_) (fun id b' x hb' hU hx => ?_) (fun id b' x hb' hU hk hx => ?_) (fun i j bi bj x y hi hj hij hU hk hx hy => ?_)
    · rw [ha, if_neg hU] at hb'; exact hb'
    · rw [ha, if_neg hU] at hb'
      exact hb.block _ (hG.lt id b' x hb' hx)
    · subst hU
      rw [ha, if_pos rfl] at hb'
      injection hb' with hb'
      subst hb'
      exact ⟨.inr ⟨Nat.le_refl _, by rw [hn]; simp⟩, hin.mono fun i h => .inl h, hok⟩
    · subst hU
      rw [up_self] at hx
      exact (hfr x hx).2
    · subst hU
      rw [up_self] at hx
      exact .inl (Nat.le_trans hG.size (hfr x hx).1)
    · rw [ha] at hi hj
      by_cases h1 : i = base
      · subst h1
        rw [if_neg fun e => hij e.symm] at hj
        rw [up_self] at hx
        have h3 := (hfr x hx).1
        rw [hag j (hG.blk j bj hj).1] at hy
        have := hG.lt j bj y hj hy
        omega
      · have h2 : j = base := hU.resolve_left h1
        subst h2
        rw [if_neg h1] at hi
        rw [up_self] at hy
        have h3 := (hfr y hy).1
        rw [hag i (hG.blk i bi hi).1] at hx
        have := hG.lt i bi x hi hx
        omega
  · rw [hn] at hk
    cases k with
    | zero =>
      simp only [Nat.add_zero, up_self] at hx
      exact (hfr x hx).1
    | succ k => simp at hk

omit [GT] in
theorem gives_of {s : Sem Value} {v : Value} {w' : World} {R : Value → World → Prop} (he : execOp a.eval o = s.bind fun x => .pure (.value x)) (h : s.run P w = .ok v w') (hR : R v w') : gives P o a w R := by
  refine Rg.gives_value (v := v) (w' := w') ?_ hR
  rw [he]
  have : (s >>= fun x => (Sem.pure (Next.value x) : Sem Next)).run P w = .ok (.value v) w' := by
    rw [Sem.run_bind, h]
    rfl
  exact this

end
end Go.Proofs.YtmhmfmnjdbehcaaDoor.Am
/- The abstract machine: operation by operation, first half. Conditions: none. -/
namespace Go.Proofs.YtmhmfmnjdbehcaaDoor.Am
set_option linter.unusedVariables false
set_option linter.unusedSimpArgs false
open Go Go.RowKit
open Rg (gives)

section
variable {P : Program} {T : List (Nat × Ty)} {ρ : Nat → Loc} {D : Nat → Prop} {N : Nat} {M : List Nat} {G : Nat → Option Blk} {base : Nat} {w : World} {o : Oper} {a : Act} {ev : Operand → Option SV}
variable [GT]

def Sn (P : Program) (o : Oper) (a : Act) (w : World) (ρ : Nat → Loc) (D : Nat → Prop) (N : Nat) (M : List Nat) (G : Nat → Option Blk) (base : Nat) (r : Res) : Prop :=
  gives P o a w fun v w' => ∃ ρ', Fits ρ D N M G base r w ρ' v w'
omit [GT] in
def EvOK (a : Act) (ρ : Nat → Loc) (D : Nat → Prop) (ev : Operand → Option SV) : Prop := ∀ x s, ev x = some s → a.eval x = s.conc ρ ∧ s.In D

theorem sn_same (hG : HR ρ D N M G w) {s : Sem Value} {r : Res} (he : execOp a.eval o = s.bind fun x => .pure (.value x)) (h : s.run P w = .ok (r.val.conc ρ) w) (hn : r.new = []) (hu : r.upd = []) : Sn P o a w ρ D N M G base r :=
  gives_of he h ⟨ρ, fits_same hG rfl hn hu⟩
theorem sn_pure (hG : HR ρ D N M G w) {r : Res} (he : execOp a.eval o = .pure (.value (r.val.conc ρ))) (hn : r.new = []) (hu : r.upd = []) : Sn P o a w ρ D N M G base r :=
  Rg.gives_value (v := r.val.conc ρ) (w' := w) (by rw [he]; rfl) ⟨ρ, fits_same hG rfl hn hu⟩

theorem s_move (hG : HR ρ D N M G w) (hev : EvOK a ρ D ev) {x : Operand} (hop : o.op = .move x) {s : SV} (hs : ev x = some s) : Sn P o a w ρ D N M G base { val := s } :=
  sn_pure hG (by unfold execOp; rw [hop]; simp only; rw [(hev x s hs).1]; rfl) rfl rfl
theorem s_assign (hG : HR ρ D N M G w) (hev : EvOK a ρ D ev) {x : Operand} (hop : o.op = .assign x) {s : SV} (hs : ev x = some s) : Sn P o a w ρ D N M G base { val := s } :=
  sn_pure hG (by unfold execOp; rw [hop]; simp only; rw [(hev x s hs).1]; rfl) rfl rfl
theorem s_pick (hG : HR ρ D N M G w) (hev : EvOK a ρ D ev) {c x y : Operand} (hop : o.op = .pick c x y) {t : Bool} (hc : ev c = some (ofV (.bool t))) {s : SV} (hs : ev (if t then x else y) = some s) : Sn P o a w ρ D N M G base { val := s } := by
  refine Rg.gives_value (v := s.conc ρ) (w' := w) ?_ ⟨ρ, fits_same hG rfl rfl rfl⟩
  unfold execOp
  rw [hop]
  simp only
  rw [(hev c _ hc).1, ← (hev _ s hs).1]
  cases t <;> simp [asBool, ofV, SV.conc, AV.conc, Seg.conc]
theorem s_alloc (hT : TOK P T) (hG : HR ρ D N M G w) (hf : ¬ D base) {t : TypeId} (hop : o.op = .alloc t) {ty : Ty} (ht : look T t = some ty) : Sn P o a w ρ D N M G base { val := .av (.one (.p base 0)), new := [⟨0, t, ty.zero.segs⟩] } := by
  have hty := hT t ty ht
  refine gives_of (s := Instr.alloc t true (.tuple #[])) (v := .pointer (some ⟨w.heap.size, 0, none⟩)) (w' := w.alloc (.cells (segsVals ρ ty.zero.segs).toArray t)) (by unfold execOp; rw [hop]; rfl) ?_ ⟨_, fits_new hG hf (hty.none_.mono fun _ h => h.elim) rfl rfl ?_⟩
  · simp [Instr.alloc, hty.run_zero ρ, newVar, newRow, AV.cells ρ hty.zok, newObj]
    rfl
  · simp [SV.conc, AV.conc, Seg.conc, up_self, Addr.add_lit]
theorem s_box (hG : HR ρ D N M G w) (hev : EvOK a ρ D ev) (hf : ¬ D base) {t : TypeId} {x : Operand} (hop : o.op = .box t x) {b : AV} (hx : ev x = some (.av b)) (hok : segsOk b.segs = true) : Sn P o a w ρ D N M G base { val := .av (.one (.p base 0)), new := [⟨0, t, b.segs⟩] } := by
  obtain ⟨hv, hin⟩ := hev x _ hx
  refine gives_of (s := Instr.box t (a.eval x)) (v := .pointer (some ⟨w.heap.size, 0, none⟩)) (w' := w.alloc (.cells (segsVals ρ b.segs).toArray t)) (by unfold execOp; rw [hop]; rfl) ?_ ⟨_, fits_new hG hf hin rfl rfl ?_⟩
  · rw [hv]
    simp [Instr.box, newVar, newRow, SV.conc, AV.cells ρ hok, newObj]
    rfl
  · simp [SV.conc, AV.conc, Seg.conc, up_self, Addr.add_lit]

/-! build -/
omit [GT] in
theorem foldl_set (news : List Value) : ∀ (k off : Nat) (cs : Array Value), off + k + news.length ≤ cs.size → (news.zipIdx k).foldl (fun cs (p : Value × Nat) => cs.setIfInBounds (off + p.2) p.1) cs = (cs.toList.take (off + k) ++ news ++ cs.toList.drop (off + k + news.length)).toArray := by
  induction news with
  | nil => intro k off cs _; simp
  | cons v l ih =>
    intro k off cs h
    simp only [List.length_cons] at h
    rw [List.zipIdx_cons, List.foldl_cons]
    simp only
    rw [ih (k + 1) off _ (by simp; omega)]
    apply congrArg List.toArray
    apply List.ext_getElem?
    intro i
    simp only [Array.toList_setIfInBounds, List.getElem?_append, List.length_append, List.length_take, List.length_set, Array.length_toList, List.getElem?_take, List.getElem?_drop, List.getElem?_set, List.length_cons]
    have e1 : min (off + (k + 1)) cs.size = off + k + 1 := by omega
    have e2 : min (off + k) cs.size = off + k := by omega
    rw [e1, e2]
    rcases Nat.lt_trichotomy i (off + k) with h1 | h1 | h1
    · rw [if_pos (by omega), if_pos (by omega), if_pos (by omega), if_neg (by omega), if_pos (by omega), if_pos (by omega), if_pos (by omega)]
    · subst h1
      rw [if_pos (by omega), if_pos (by omega), if_pos (by omega), if_pos rfl, if_pos (by omega), if_pos (by omega), if_neg (by omega)]
      simp
    · by_cases h2 : i < off + k + 1 + l.length
      · rw [if_pos (by omega), if_neg (by omega), if_pos (by omega), if_neg (by omega)]
        obtain ⟨d, rfl⟩ : ∃ d, i = off + k + 1 + d := ⟨i - (off + k + 1), by omega⟩
        rw [show off + k + 1 + d - (off + k) = d + 1 by omega, List.getElem?_cons_succ]
        congr 1; omega
      · rw [if_neg (by omega), if_neg (by omega), if_neg (by omega)]
        congr 1; omega
omit [GT] in
theorem fill_at {pl : Nat → Option (Nat × Nat)} {cs : Array Value} {i off n : Nat} {v : Value} {rest : List (Nat × Value)} (hp : pl i = some (off, n)) (hn : v.cells.size = n) (hl : off + n ≤ cs.size) :
    Instr.fill pl cs ((i, v) :: rest) = Instr.fill pl (cs.toList.take off ++ v.cells.toList ++ cs.toList.drop (off + n)).toArray rest := by
  have := foldl_set v.cells.toList 0 off cs (by simp; omega)
  simp only [Nat.add_zero, Array.length_toList, hn] at this
  conv => lhs; unfold Instr.fill
  simp only [hp]
  rw [if_neg (by simp [hn]; omega)]
  congr 1
  rw [← this]
  simp [Array.foldl_toList, ← Array.toList_zipIdx]
theorem fillIn_spec (hev : EvOK a ρ D ev) {pl pl' : Nat → Option (Nat × Nat)} (hpl : ∀ i x, pl i = some x → pl' i = some x) : ∀ (l : List (Nat × Operand)) (c r : List Seg), fillIn pl ev c l = some r →
    Instr.fill pl' (segsVals ρ c).toArray (l.map fun x => (x.1, a.eval x.2)) = some (segsVals ρ r).toArray
  | [], c, r, h => by
    simp only [fillIn, Option.some.injEq] at h
    subst h
    rfl
  | (i, x) :: l, c, r, h => by
    unfold fillIn at h
    split at h
    · rename_i off n b hp hx
      split at h
      · rename_i hw
        simp only [Bool.and_eq_true] at hw
        split at h
        · rename_i c' hput
          obtain ⟨hv, hin⟩ := hev x _ hx
          obtain ⟨e1, e2⟩ := putSegs_spec ρ hput
          have hwn := Nat.eq_of_beq_eq_true hw.1
          have ih := fillIn_spec hev hpl l c' r h
          rw [List.map_cons]
          have hcells := AV.cells ρ hw.2
          rw [fill_at (hpl i _ hp) (by rw [hv]; simp only [SV.conc]; rw [hcells]; simp [segsVals_len, hwn]) (by rw [segsVals_len ρ b.segs, hwn] at e2; simpa using e2)]
          have : (((segsVals ρ c).toArray.toList.take off ++ (a.eval x).cells.toList ++ (segsVals ρ c).toArray.toList.drop (off + n)).toArray) = (segsVals ρ c').toArray := by
            rw [hv]
            simp only [SV.conc]
            rw [hcells, e1, segsVals_len ρ b.segs, hwn]
          rw [this]
          exact ih
        · cases h
      · cases h
    · cases h

end
end Go.Proofs.YtmhmfmnjdbehcaaDoor.Am
/- The abstract machine: operation by operation: build, load, store, arithmetic. Conditions: none. -/
namespace Go.Proofs.YtmhmfmnjdbehcaaDoor.Am
set_option linter.unusedVariables false
set_option linter.unusedSimpArgs false
open Go Go.RowKit
open Rg (gives)

theorem mapM_at {α β : Type} {f : α → Option β} : ∀ {l : List α} {r : List β}, l.mapM f = some r → ∀ {i : Nat} {x : α}, l[i]? = some x → ∃ y, f x = some y ∧ r[i]? = some y
  | [], _, _, i, x, hx => by cases hx
  | a :: l, r, h, i, x, hx => by
    rw [List.mapM_cons] at h
    simp only [Option.bind_eq_bind, Option.pure_def] at h
    cases ha : f a with
    | none => simp [ha] at h
    | some y =>
      cases hr : l.mapM f with
      | none => simp [ha, hr] at h
      | some r' =>
        simp only [ha, hr, Option.bind_some, Option.some.injEq] at h
        subst h
        cases i with
        | zero =>
          simp only [List.getElem?_cons_zero, Option.some.injEq] at hx
          subst hx
          exact ⟨y, ha, rfl⟩
        | succ i =>
          simp only [List.getElem?_cons_succ] at hx ⊢
          exact mapM_at hr hx

section
variable {P : Program} {T : List (Nat × Ty)} {ρ : Nat → Loc} {D : Nat → Prop} {N : Nat} {M : List Nat} {G : Nat → Option Blk} {base : Nat} {w : World} {o : Oper} {a : Act} {ev : Operand → Option SV}
variable [GT]

omit [GT] in
theorem place_arr (hT : TOK P T) {n : Nat} {e : TypeId} {te : Ty} (he : look T e = some te) {i : Nat} {x : Nat × Nat} (h : place T (.arr n e) i = some x) : some (i * te.size, te.size) = some x := by
  simp only [place, he] at h
  exact h
omit [GT] in
theorem place_st (hT : TOK P T) {fs : List (Nat × TypeId)} {fields : Array Field} (hfs : fs = fields.toList.map fun f => (f.offset, f.type)) {pls : List (Nat × Nat)} (hp : fields.toList.mapM (fun f => (P.info? f.type).map fun i => (f.offset, i.size)) = some pls) {i : Nat} {x : Nat × Nat} (h : place T (.st fs) i = some x) : pls.toArray[i]? = some x := by
  simp only [place] at h
  split at h
  · rename_i off t hft
    rw [hfs, List.getElem?_map, Option.map_eq_some_iff] at hft
    obtain ⟨f, hf, hft⟩ := hft
    simp only [Prod.mk.injEq] at hft
    obtain ⟨rfl, rfl⟩ := hft
    split at h
    · rename_i ty hty
      simp only [Option.some.injEq] at h
      subst h
      obtain ⟨y, hy, hr⟩ := mapM_at hp hf
      obtain ⟨inf, hi, hs, _⟩ := (hT _ _ hty).info
      rw [hi] at hy
      simp only [Option.map_some, Option.some.injEq] at hy
      subst hy
      simpa [hs] using hr
    · cases h
  · cases h

omit [GT] in
theorem parts_list (parts : Array (Nat × Operand)) : (parts.map fun x => (x.1, a.eval x.2)).toList = parts.toList.map fun x => (x.1, a.eval x.2) := by simp
theorem s_build_arr (hT : TOK P T) (hG : HR ρ D N M G w) (hev : EvOK a ρ D ev) {t : TypeId} {parts : Array (Nat × Operand)} (hop : o.op = .build t parts) {ty : Ty} (ht : look T t = some ty) {n : Nat} {e : TypeId} (hu : ty.u = .arr n e) {te : Ty} (he : look T e = some te) {l : List Seg} (hl : fillIn (place T (.arr n e)) ev ty.zero.segs parts.toList = some l) :
    Sn P o a w ρ D N M G base { val := .av (normNum l) } := by
  have hty := hT t ty ht
  have hun : P.underlying t = some (.array n e) := by have := hty.und; rw [hu] at this; exact this
  refine sn_same hG (s := Instr.build t (parts.map fun x => (x.1, a.eval x.2))) (by unfold execOp; rw [hop]; rfl) ?_ rfl rfl
  simp only [SV.conc]
  rw [normNum_conc]
  have hf := fillIn_spec hev (pl' := fun i => some (i * te.size, te.size)) (fun i x hx => place_arr hT he hx) _ _ _ hl
  have hsz := (hT e te he).run_size (w := w)
  simp only [Instr.build, Sem.run_bind, hty.run_zero ρ, run_underlying hun, Result.andThen_ok, AV.cells ρ hty.zok, hsz, parts_list, hf, Sem.run_pure]
theorem s_build_st (hT : TOK P T) (hG : HR ρ D N M G w) (hev : EvOK a ρ D ev) {t : TypeId} {parts : Array (Nat × Operand)} (hop : o.op = .build t parts) {ty : Ty} (ht : look T t = some ty) {fs : List (Nat × TypeId)} (hu : ty.u = .st fs) {l : List Seg} (hl : fillIn (place T (.st fs)) ev ty.zero.segs parts.toList = some l) :
    Sn P o a w ρ D N M G base { val := .av (mkAgg l) } := by
  have hty := hT t ty ht
  have hun : UOK P t (.st fs) := by have := hty.und; rw [hu] at this; exact this
  obtain ⟨fields, hd, hfs, pls, hpls⟩ := hun
  refine sn_same hG (s := Instr.build t (parts.map fun x => (x.1, a.eval x.2))) (by unfold execOp; rw [hop]; rfl) ?_ rfl rfl
  simp only [SV.conc]
  rw [mkAgg_conc]
  have hf := fillIn_spec hev (pl' := (pls.toArray[·]?)) (fun i x hx => place_st hT hfs hpls hx) _ _ _ hl
  have hrp := run_places (P := P) w fields.toList pls hpls
  simp [Instr.build, hty.run_zero ρ, run_underlying hd, AV.cells ρ hty.zok, Array.mapM_eq_mapM_toList, hrp, parts_list]
  simp at hf
  simp [hf]

end
end Go.Proofs.YtmhmfmnjdbehcaaDoor.Am
/- The abstract machine: operation by operation: slices made, loads, stores, arithmetic. Conditions: none. -/
namespace Go.Proofs.YtmhmfmnjdbehcaaDoor.Am
set_option linter.unusedVariables false
set_option linter.unusedSimpArgs false
open Go Go.RowKit
open Rg (gives)

section
variable {P : Program} {T : List (Nat × Ty)} {ρ : Nat → Loc} {D : Nat → Prop} {N : Nat} {M : List Nat} {G : Nat → Option Blk} {base : Nat} {w : World} {o : Oper} {a : Act} {ev : Operand → Option SV}
variable [GT]

omit [GT] in
theorem times_vals (ρ : Nat → Loc) (l : List Seg) : ∀ (n : Nat), segsVals ρ (times n l) = (List.replicate n (segsVals ρ l)).flatten
  | 0 => rfl
  | n + 1 => by
    unfold times
    rw [segsVals_append, times_vals ρ l n, List.replicate_succ, List.flatten_cons]
omit [GT] in
theorem flatten_at {α : Type} (l : List α) (n : Nat) : ∀ (i : Nat), i < n * l.length → ((List.replicate n l).flatten)[i]? = l[i % l.length]? := by
  induction n with
  | zero => intro i h; simp at h
  | succ n ih =>
    intro i h
    rw [List.replicate_succ, List.flatten_cons]
    by_cases hi : i < l.length
    · rw [List.getElem?_append_left hi, Nat.mod_eq_of_lt hi]
    · rw [List.getElem?_append_right (by omega), ih _ (by rw [Nat.add_mul] at h; omega)]
      congr 1
      exact (Nat.mod_eq_sub_mod (by omega)).symm
omit [GT] in
theorem range_zero (z : List Value) (n : Nat) : ((Array.range (n * z.length)).map (z.toArray[· % z.toArray.size]!)) = ((List.replicate n z).flatten).toArray := by
  apply Array.ext
  · simp
  · intro i h1 h2
    have hi : i < n * z.length := by simpa using h1
    have hz : 0 < z.length := by
      rcases Nat.eq_zero_or_pos z.length with h | h
      · rw [h] at hi; simp at hi
      · exact h
    have hm : i % z.length < z.length := Nat.mod_lt _ hz
    have e := flatten_at z n i hi
    simp at h2
    rw [List.getElem?_eq_getElem (by simpa using h2), List.getElem?_eq_getElem hm] at e
    simp only [Option.some.injEq] at e
    simp [e, hm]
theorem s_buildSlice (hT : TOK P T) (hG : HR ρ D N M G w) (hev : EvOK a ρ D ev) (hf : ¬ D base) {t : TypeId} {len : Nat} {parts : Array (Nat × Operand)} (hop : o.op = .buildSlice t len parts) {ty : Ty} (ht : look T t = some ty) {e : TypeId} (hu : ty.u = .sl e) {te : Ty} (he : look T e = some te) (hlen : len * te.size ≤ 16777216) {l : List Seg} (hl : fillIn (place T (.arr len e)) ev (times len te.zero.segs) parts.toList = some l) (hin : segsIn D l) :
    Sn P o a w ρ D N M G base { val := .av (.one (.s base 0 len len)), new := [⟨0, e, l⟩] } := by
  have hty := hT t ty ht
  have hte := hT e te he
  have hun : P.underlying t = some (.slice e) := by have := hty.und; rw [hu] at this; exact this
  refine gives_of (s := Instr.buildSlice t len (parts.map fun x => (x.1, a.eval x.2))) (v := .slice (some ⟨w.heap.size, 0, none⟩) len len) (w' := w.alloc (.cells (segsVals ρ l).toArray e)) (by unfold execOp; rw [hop]; rfl) ?_ ⟨_, fits_new hG hf hin rfl rfl ?_⟩
  · have hf := fillIn_spec hev (pl' := fun i => some (i * te.size, te.size)) (fun i x hx => place_arr hT he hx) _ _ _ hl
    have hsz := hte.run_size (w := w)
    have hzr := hte.run_zero ρ (w := w)
    have hc := AV.cells ρ hte.zok
    have hw : (segsVals ρ te.zero.segs).length = te.size := by rw [segsVals_len]; exact hte.zsz
    have hrz := range_zero (segsVals ρ te.zero.segs) len
    rw [hw, ← times_vals] at hrz
    have hbig : ¬ len * te.size > 2 ^ 24 := by omega
    by_cases h0 : len * te.size = 0
    · have he0 : segsVals ρ (times len te.zero.segs) = [] := by
        rw [← List.length_eq_zero_iff, segsVals_len]
        have : ∀ n, widths (times n te.zero.segs) = n * te.size := by
          intro n
          rw [← segsVals_len ρ, times_vals, List.length_flatten]
          simp [hw]
        rw [this]; exact h0
      rw [he0] at hf
      have hr0 : ∀ f : Nat → Value, (Array.range 0).map f = #[] := fun _ => by simp
      have hf' : Instr.fill (fun i => some (i * te.size, te.size)) #[] (List.map (fun x => (x.1, a.eval x.2)) parts.toList) = some (segsVals ρ l).toArray := hf
      simp only [Instr.buildSlice, Sem.run_bind, run_underlying hun, Result.andThen_ok, hsz, if_neg hbig, h0, if_pos rfl, Sem.run_pure, hr0, parts_list]
      rw [hf']
      simp [newRow, newObj]
      rfl
    · simp only [Instr.buildSlice, Sem.run_bind, run_underlying hun, Result.andThen_ok, hsz, if_neg hbig, if_neg h0, hzr, Sem.run_pure, hc, hrz, parts_list, hf]
      simp [newRow, newObj]
      rfl
  · simp [SV.conc, AV.conc, Seg.conc, up_self, Addr.add_lit]

omit [GT] in
theorem conc_p (ρ : Nat → Loc) (id off : Nat) : SV.conc ρ (.av (.one (.p id off))) = .pointer ((ρ id).a.map (·.add off)) := rfl
omit [GT] in
theorem conc_av (ρ : Nat → Loc) (b : AV) : SV.conc ρ (.av b) = b.conc ρ := rfl
theorem cells_at {id off : Nat} {b : Blk} {l : List Value} (hG : HR ρ D N M G w) (hb : G id = some b) (hl : ∀ j u, l[j]? = some u → (segsVals ρ b.c)[off + j]? = some u) (hn : 0 < l.length) : ∃ x : Addr, (ρ id).a = some x ∧ ∀ j u, l[j]? = some u → w.cell? ((x.add off).add j) = some u := by
  have hbk := (hG.blk id b hb).2.2
  obtain ⟨x, hx, _⟩ := hbk.cells (hl 0 l[0] (by simp [hn]))
  refine ⟨x, hx, fun j u hj => ?_⟩
  obtain ⟨y, hy, hc⟩ := hbk.cells (hl j u hj)
  rw [hx] at hy
  injection hy with hy
  subst hy
  rw [← hc]
  congr 1
  by_cases h1 : off = 0
  · subst h1; simp [Addr.add]
  · by_cases h2 : j = 0
    · subst h2; simp [Addr.add, h1]
    · simp [Addr.add, h1, h2, Nat.add_assoc]

theorem s_load_agg (hT : TOK P T) (hG : HR ρ D N M G w) (hev : EvOK a ρ D ev) {t : TypeId} {x : Operand} (hop : o.op = .load t x) {ty : Ty} (ht : look T t = some ty) (hagg : ty.u.agg = true) {id off : Nat} (hx : ev x = some (.av (.one (.p id off)))) {b : Blk} (hb : G id = some b) {l : List Seg} (hl : getSegs b.c off ty.size = some l) (hpos : 0 < ty.size) {q : Asm} :
    Sn P o a w ρ D N M G base { val := .av (mkAgg l), asm := q } := by
  have hty := hT t ty ht
  obtain ⟨hv, _⟩ := hev x _ hx
  obtain ⟨_, hlen⟩ := getSegs_spec ρ hl
  obtain ⟨y, hy, hc⟩ := cells_at (l := segsVals ρ l) hG hb (getSegs_at ρ hl) (by omega)
  refine sn_same hG (s := Instr.loadAt t (a.eval x)) (by unfold execOp; rw [hop]; rfl) ?_ rfl rfl
  rw [hv, conc_p, hy, conc_av, mkAgg_conc]
  simp only [Option.map_some]
  have hlc := run_loadCells_list (P := P) w (y.add off) (segsVals ρ l) hc
  rw [hlen] at hlc
  simp only [Instr.loadAt, Instr.sureAddr, loadVar, Sem.run_bind, Sem.run_pure, Result.andThen_ok, hty.agg, hagg, if_true, hty.run_size, hlc]
theorem s_load_one (hT : TOK P T) (hG : HR ρ D N M G w) (hev : EvOK a ρ D ev) {t : TypeId} {x : Operand} (hop : o.op = .load t x) {ty : Ty} (ht : look T t = some ty) (hagg : ty.u.agg = false) {id off : Nat} (hx : ev x = some (.av (.one (.p id off)))) {b : Blk} (hb : G id = some b) {s : SV} (hl : (segsVals ρ b.c)[off]? = some (s.conc ρ)) {p : Asm} :
    Sn P o a w ρ D N M G base { val := s, asm := p } := by
  have hty := hT t ty ht
  obtain ⟨hv, _⟩ := hev x _ hx
  obtain ⟨y, hy, hc⟩ := cells_at (l := [s.conc ρ]) (off := off) hG hb (fun j u hj => by
    cases j with
    | zero => simp only [List.getElem?_cons_zero, Option.some.injEq] at hj; subst hj; exact hl
    | succ j => simp at hj) (by simp)
  refine sn_same hG (s := Instr.loadAt t (a.eval x)) (by unfold execOp; rw [hop]; rfl) ?_ rfl rfl
  rw [hv, conc_p, hy]
  simp only [Option.map_some]
  have hc0 := hc 0 _ rfl
  have : (y.add off).add 0 = y.add off := by simp [Addr.add]
  rw [this] at hc0
  simp [Instr.loadAt, Instr.sureAddr, loadVar, hty.agg, hagg, hc0]
omit [GT] in
theorem storeCells_own {g off : Nat} {cur news : List Value} {t : TypeId} (hg : w.heap[g]? = some (.cells cur.toArray t (0, 0))) (hl : off + news.length ≤ cur.length) (h1 : ∀ v ∈ news, v.oneCell' = true) :
    (storeCells ⟨g, off, none⟩ news 0).run P w = .ok () (w.setRow g (cur.take off ++ news ++ cur.drop (off + news.length)).toArray) := by
  have := run_storeCells_at P g off t news 0 cur.toArray w hg (by simpa using hl) h1
  simpa using this
theorem s_store (hT : TOK P T) (hG : HR ρ D N M G w) (hev : EvOK a ρ D ev) {t : TypeId} {x y : Operand} (hop : o.op = .store t x y) {ty : Ty} (ht : look T t = some ty) {id off : Nat} (hx : ev x = some (.av (.one (.p id off)))) {b : Blk} (hb : G id = some b) (hk : b.k = 0) {v : AV} (hy : ev y = some (.av v)) (hok : segsOk v.segs = true) (hw : widths v.segs = ty.size)
    {c : List Seg} (hc : segsVals ρ c = (segsVals ρ b.c).take off ++ segsVals ρ v.segs ++ (segsVals ρ b.c).drop (off + (segsVals ρ v.segs).length)) (hle : off + (segsVals ρ v.segs).length ≤ (segsVals ρ b.c).length) (hin : segsIn D c) {p : Asm} :
    Sn P o a w ρ D N M G base { val := ofV undef, upd := [(id, some ⟨0, b.ty, c⟩)], asm := p } := by
  have hty := hT t ty ht
  obtain ⟨hvx, _⟩ := hev x _ hx
  obtain ⟨hvy, _⟩ := hev y _ hy
  have hbk := (hG.blk id b hb).2.2
  obtain ⟨k, bty, bc⟩ := b
  simp only at hk
  subst hk
  obtain ⟨g, ha, hg⟩ := hbk
  have hst := storeCells_own (P := P) (off := off) (news := segsVals ρ v.segs) hg hle (segsVals_cell ρ hok)
  rw [← hc] at hst
  have hcells := AV.cells ρ hok
  have hsz : (v.conc ρ).cells.size = ty.size := by rw [hcells, List.size_toArray, segsVals_len, hw]
  have hrun : (Instr.storeAt t (a.eval x) (a.eval y)).run P w = .ok () (w.setRow g (segsVals ρ c).toArray) := by
    rw [hvx, hvy, conc_p, conc_av, ha]
    simp only [Option.map_some, Addr.add_lit, Nat.zero_add]
    simp only [Instr.storeAt, Instr.sureAddr, storeVar, Sem.run_bind, Sem.run_pure, Result.andThen_ok, hty.run_size, hcells]
    rw [if_neg (by rw [List.size_toArray, segsVals_len, hw]; simp)]
    exact hst
  have he : execOp a.eval o = (Instr.storeAt t (a.eval x) (a.eval y)) >>= fun _ => .pure .skip := by unfold execOp; rw [hop]; rfl
  have hr : (execOp a.eval o).run P w = .ok .skip (w.setRow g (segsVals ρ c).toArray) := by
    rw [he, Sem.run_bind, hrun]; rfl
  unfold Sn gives
  rw [hr]
  exact ⟨ρ, fits_put hG hb rfl hin rfl rfl rfl ha hg⟩

omit [GT] in
theorem take_put {α : Type} (cur vs : List α) (off n : Nat) (h : off + vs.length ≤ n) (hn : n ≤ cur.length) : (cur.take off ++ vs ++ cur.drop (off + vs.length)).take n = (cur.take n).take off ++ vs ++ (cur.take n).drop (off + vs.length) := by
  have e1 : (cur.take off).length = off := by rw [List.length_take]; omega
  rw [List.take_append, List.take_append, List.take_take, List.take_take, List.drop_take, e1, List.length_append, e1]
  rw [Nat.min_eq_right (by omega), Nat.min_eq_left (by omega : off ≤ n), List.take_of_length_le (by omega : vs.length ≤ n - off)]
/-- A store into a row that may grow. -/
theorem s_store1 (hT : TOK P T) (hG : HR ρ D N M G w) (hev : EvOK a ρ D ev) {t : TypeId} {x y : Operand} (hop : o.op = .store t x y) {ty : Ty} (ht : look T t = some ty) {id off : Nat} (hx : ev x = some (.av (.one (.p id off)))) {b : Blk} (hb : G id = some b) (hk : b.k = 1) {v : AV} (hy : ev y = some (.av v)) (hok : segsOk v.segs = true) (hw : widths v.segs = ty.size) (hpos : 1 ≤ ty.size)
    {c : List Seg} (hc : segsVals ρ c = (segsVals ρ b.c).take off ++ segsVals ρ v.segs ++ (segsVals ρ b.c).drop (off + (segsVals ρ v.segs).length)) (hle : off + (segsVals ρ v.segs).length ≤ (segsVals ρ b.c).length) (hin : segsIn D c) {p : Asm} :
    Sn P o a w ρ D N M G base { val := ofV undef, upd := [(id, some ⟨1, b.ty, c⟩)], asm := p } := by
  have hty := hT t ty ht
  obtain ⟨hvx, _⟩ := hev x _ hx
  obtain ⟨hvy, _⟩ := hev y _ hy
  have hbk := (hG.blk id b hb).2.2
  obtain ⟨k, bty, bc⟩ := b
  simp only at hk
  subst hk
  simp only at hc hle
  have hvl : (segsVals ρ v.segs).length = ty.size := by rw [segsVals_len, hw]
  rcases hbk.2 with ⟨_, h0⟩ | ⟨g, cap, cur, hv, hbg, hg, hnc, hcm, hcs, htake⟩
  · simp only at h0; omega
  · injection hv with ha _ hcap
    simp only [Nat.mul_one] at htake hcs hnc
    have hcl : cur.toList.length = cap := by simpa using hcs
    have hst := storeCells_own (P := P) (off := off) (cur := cur.toList) (news := segsVals ρ v.segs) (by simpa using hg) (by omega) (segsVals_cell ρ hok)
    have hcells := AV.cells ρ hok
    have hrun : (Instr.storeAt t (a.eval x) (a.eval y)).run P w = .ok () (w.setRow g (cur.toList.take off ++ segsVals ρ v.segs ++ cur.toList.drop (off + (segsVals ρ v.segs).length)).toArray) := by
      rw [hvx, hvy, conc_p, conc_av, ha]
      simp only [Option.map_some, Addr.add_lit, Nat.zero_add]
      simp only [Instr.storeAt, Instr.sureAddr, storeVar, Sem.run_bind, Sem.run_pure, Result.andThen_ok, hty.run_size, hcells]
      rw [if_neg (by rw [List.size_toArray, segsVals_len, hw]; simp)]
      exact hst
    have he : execOp a.eval o = (Instr.storeAt t (a.eval x) (a.eval y)) >>= fun _ => .pure .skip := by unfold execOp; rw [hop]; rfl
    have hr : (execOp a.eval o).run P w = .ok .skip (w.setRow g (cur.toList.take off ++ segsVals ρ v.segs ++ cur.toList.drop (off + (segsVals ρ v.segs).length)).toArray) := by
      rw [he, Sem.run_bind, hrun]; rfl
    have hlc : (segsVals ρ c).length = (segsVals ρ bc).length := by rw [hc]; simp; omega
    have hlc' : (List.take off (segsVals ρ bc) ++ segsVals ρ v.segs ++ List.drop (off + (segsVals ρ v.segs).length) (segsVals ρ bc)).length = (segsVals ρ bc).length := by rw [← hc, hlc]
    unfold Sn gives
    rw [hr]
    refine ⟨ρ, fits_put2 hG hb (Nat.lt_succ_self 1) rfl rfl rfl ha hin ?_⟩
    show World.ownsRow _ 0 bty 1 _ _ _
    refine ⟨(Nat.mul_one _).symm, .inr ⟨g, cap, (cur.toList.take off ++ segsVals ρ v.segs ++ cur.toList.drop (off + (segsVals ρ v.segs).length)).toArray, ?_, hbg, ?_, by rw [hlc]; exact hnc, hcm, by simp; omega, ?_⟩⟩
    · simp only [ha, hlc, hcap]
    · exact setRow_heap w g _ _ _ _ hg
    · rw [hc, ← htake]
      have := take_put cur.toList (segsVals ρ v.segs) off (segsVals ρ bc).length hle (by omega)
      rw [htake] at this ⊢
      rw [Nat.mul_one, hlc', this]

theorem s_extract (hG : HR ρ D N M G w) (hev : EvOK a ρ D ev) {x : Operand} {i : Nat} (hop : o.op = .extract x i) {l : List AV} (hx : ev x = some (.tup l)) {b : AV} (hb : l[i]? = some b) : Sn P o a w ρ D N M G base { val := .av b } := by
  refine sn_same hG (s := Instr.extract (a.eval x) i) (by unfold execOp; rw [hop]; rfl) ?_ rfl rfl
  rw [(hev x _ hx).1]
  have : ((l.map (AV.conc ρ)).toArray)[i]? = some (b.conc ρ) := by simp [hb]
  simp only [SV.conc, Instr.extract, this]
  rfl
theorem s_not (hG : HR ρ D N M G w) (hev : EvOK a ρ D ev) {t : TypeId} {x : Operand} (hop : o.op = .unOp .not t x) {b : Bool} (hx : ev x = some (ofV (.bool b))) : Sn P o a w ρ D N M G base { val := ofV (.bool !b) } := by
  refine sn_same hG (s := Op.unary .not (a.eval x)) (by unfold execOp; rw [hop]; rfl) ?_ rfl rfl
  rw [(hev x _ hx).1]
  rfl
theorem s_neg (hG : HR ρ D N M G w) (hev : EvOK a ρ D ev) {t : TypeId} {x : Operand} (hop : o.op = .unOp .neg t x) {k : IntKind} {z : Int} (hx : ev x = some (ofV (.int k z))) : Sn P o a w ρ D N M G base { val := ofV (.int k (k.wrap (0 - z))) } := by
  refine sn_same hG (s := Op.unary .neg (a.eval x)) (by unfold execOp; rw [hop]; rfl) ?_ rfl rfl
  rw [(hev x _ hx).1]
  rfl
theorem s_cpl (hG : HR ρ D N M G w) (hev : EvOK a ρ D ev) {t : TypeId} {x : Operand} (hop : o.op = .unOp .xor t x) {k : IntKind} {z : Int} (hx : ev x = some (ofV (.int k z))) : Sn P o a w ρ D N M G base { val := ofV (.int k (ixor k (if k.signed then -1 else k.max) z)) } := by
  refine sn_same hG (s := Op.unary .xor (a.eval x)) (by unfold execOp; rw [hop]; rfl) ?_ rfl rfl
  rw [(hev x _ hx).1]
  rfl
theorem s_nilCheck (hG : HR ρ D N M G w) (hev : EvOK a ρ D ev) {x : Operand} (hop : o.op = .nilCheck x) {id off : Nat} (hx : ev x = some (.av (.one (.p id off)))) {b : Blk} (hb : G id = some b) (hk : hasA b = true) : Sn P o a w ρ D N M G base { val := .av (.one (.p id off)) } := by
  obtain ⟨y, ha⟩ := (hG.blk id b hb).2.2.hasA hk
  refine Rg.gives_value (v := SV.conc ρ (.av (.one (.p id off)))) (w' := w) ?_ ⟨ρ, fits_same hG rfl rfl rfl⟩
  unfold execOp
  rw [hop]
  simp only
  rw [(hev x _ hx).1, conc_p, ha]
  rfl
omit [GT] in
theorem eqGuard_int {op : BinOp} {t : TypeId} {x y : Operand} {k : IntKind} {n : Int} {v : Value} : (eqGuard op t x y (.int k n) v).run P w = .ok () w := by cases op <;> cases v <;> rfl
omit [GT] in
theorem eqGuard_str {op : BinOp} {t : TypeId} {x y : Operand} {s : ByteArray} {v : Value} : (eqGuard op t x y (.string s) v).run P w = .ok () w := by cases op <;> cases v <;> rfl
omit [GT] in
theorem eqGuard_bool {op : BinOp} {t : TypeId} {x y : Operand} {s : Bool} {v : Value} : (eqGuard op t x y (.bool s) v).run P w = .ok () w := by cases op <;> cases v <;> rfl
omit [GT] in
theorem eqGuard_ptr {op : BinOp} {t : TypeId} {x y : Operand} {s : Option Addr} {v : Value} : (eqGuard op t x y (.pointer s) v).run P w = .ok () w := by cases op <;> cases v <;> rfl
omit [GT] in
theorem bin_exec {op : BinOp} {t t' : TypeId} {x y : Operand} (hop : o.op = .binOp op t x y t') : execOp a.eval o = (eqGuard op t x y (a.eval x) (a.eval y) >>= fun _ => Go.binOp op t (a.eval x) (a.eval y)).bind fun z => .pure (.value z) := by
  unfold execOp; rw [hop]; rfl
omit [GT] in
theorem bin_str {op : BinOp} {t : TypeId} {u v : ByteArray} {sym : Bool} {r : Value} {p : Asm} (h : binVal sym op (.string u) (.string v) = some (r, p)) : (Go.binOp op t (.string u) (.string v)).run P w = .ok r w := by
  cases op <;> simp only [binVal] at h <;> first | (cases h; done) | (simp only [Option.some.injEq, Prod.mk.injEq] at h; obtain ⟨rfl, _⟩ := h; unfold Go.binOp; simp [Op.stringOp]; done)
theorem bin_int {op : BinOp} {t : TypeId} {k j : IntKind} {u v : Int} {sym : Bool} {r : Value} {p : Asm} (h : binVal sym op (.int k u) (.int j v) = some (r, p)) (hp : p.holds) : (Go.binOp op t (.int k u) (.int j v)).run P w = .ok r w := by
  cases op
  case shl =>
    simp only [binVal] at h
    cases sym
    · simp only at h
      split at h
      · rename_i n
        simp only [Option.some.injEq, Prod.mk.injEq] at h
        obtain ⟨rfl, _⟩ := h
        have : ¬ (Int.ofNat n < 0) := by simp
        unfold Go.binOp
        simp only [Op.shift, if_neg this]
        rfl
      · cases h
    · simp only [Option.some.injEq, Prod.mk.injEq] at h
      obtain ⟨rfl, rfl⟩ := h
      unfold Go.binOp
      simp only [Op.shift, if_neg (Int.not_lt.2 hp)]
      rfl
  case shr =>
    simp only [binVal] at h
    cases sym
    · simp only at h
      split at h
      · rename_i n
        simp only [Option.some.injEq, Prod.mk.injEq] at h
        obtain ⟨rfl, _⟩ := h
        have : ¬ (Int.ofNat n < 0) := by simp
        unfold Go.binOp
        simp only [Op.shift, if_neg this]
        rfl
      · cases h
    · simp only [Option.some.injEq, Prod.mk.injEq] at h
      obtain ⟨rfl, rfl⟩ := h
      unfold Go.binOp
      simp only [Op.shift, if_neg (Int.not_lt.2 hp)]
      rfl
  case quo =>
    simp only [binVal] at h
    split at h
    · cases h
    · rename_i hk
      have hkj := ik_inj hk
      subst hkj
      unfold Go.binOp
      cases sym
      · simp only at h
        split at h
        · rename_i n
          simp only [Option.some.injEq, Prod.mk.injEq] at h
          obtain ⟨rfl, _⟩ := h
          have : ¬ (Int.ofNat (n + 1) = 0) := by simp; omega
          simp [Op.intDiv, this]
          omega
        · cases h
      · simp only [Option.some.injEq, Prod.mk.injEq] at h
        obtain ⟨rfl, rfl⟩ := h
        have hp' : v ≠ 0 := hp
        simp [Op.intDiv, hp']
  case rem =>
    simp only [binVal] at h
    split at h
    · cases h
    · rename_i hk
      have hkj := ik_inj hk
      subst hkj
      unfold Go.binOp
      cases sym
      · simp only at h
        split at h
        · rename_i n
          simp only [Option.some.injEq, Prod.mk.injEq] at h
          obtain ⟨rfl, _⟩ := h
          have : ¬ (Int.ofNat (n + 1) = 0) := by simp; omega
          simp [Op.intDiv, this]
          omega
        · cases h
      · simp only [Option.some.injEq, Prod.mk.injEq] at h
        obtain ⟨rfl, rfl⟩ := h
        have hp' : v ≠ 0 := hp
        simp [Op.intDiv, hp']
  all_goals
    simp only [binVal] at h
    split at h
    · cases h
    · rename_i hk
      have hkj := ik_inj hk
      subst hkj
      first
        | (cases h; done)
        | (simp only [Option.some.injEq, Prod.mk.injEq] at h; obtain ⟨rfl, _⟩ := h; unfold Go.binOp; simp [Op.intArith, Op.intBits, Op.intCmp, iand, ior, ixor, iandn]; done)
theorem s_bin (hG : HR ρ D N M G w) (hev : EvOK a ρ D ev) {op : BinOp} {t t' : TypeId} {x y : Operand} (hop : o.op = .binOp op t x y t') {u v : Value} (hx : ev x = some (ofV u)) (hy : ev y = some (ofV v)) {sym : Bool} {r : Value} {p : Asm} (h : binVal sym op u v = some (r, p)) (hp : p.holds) : Sn P o a w ρ D N M G base { val := ofV r, asm := p } := by
  refine sn_same hG (bin_exec hop) ?_ rfl rfl
  rw [(hev x _ hx).1, (hev y _ hy).1]
  change ((eqGuard op t x y u v) >>= fun _ => Go.binOp op t u v).run P w = .ok r w
  rw [Sem.run_bind]
  cases u
  case int k u =>
    cases v
    case int j v =>
      rw [eqGuard_int]
      exact bin_int h hp
    all_goals cases op <;> simp [binVal] at h
  case string u =>
    cases v
    case string v =>
      rw [eqGuard_str]
      exact bin_str h
    all_goals simp [binVal] at h
  all_goals simp [binVal] at h

end
end Go.Proofs.YtmhmfmnjdbehcaaDoor.Am
/- The abstract machine: operation by operation: comparisons, conversions, places. Conditions: none. -/
namespace Go.Proofs.YtmhmfmnjdbehcaaDoor.Am
set_option linter.unusedVariables false
set_option linter.unusedSimpArgs false
open Go Go.RowKit
open Rg (gives)

section
variable {P : Program} {T : List (Nat × Ty)} {ρ : Nat → Loc} {D : Nat → Prop} {N : Nat} {M : List Nat} {G : Nat → Option Blk} {base : Nat} {w : World} {o : Oper} {a : Act} {ev : Operand → Option SV}
variable [GT]

omit [GT] in
theorem eq_bool {t : TypeId} (hun : P.underlying t = some .bool) (u v : Bool) (d : Nat) : (Op.equalIn (d + 1) t (.bool u) (.bool v)).run P w = .ok (u == v) w := by
  simp [Op.equalIn, run_underlying hun]
omit [GT] in
theorem eq_ptr {t e : TypeId} (hun : P.underlying t = some (.pointer e)) (x : Addr) (d : Nat) : (Op.equalIn (d + 1) t (.pointer (some x)) (.pointer none)).run P w = .ok false w := by
  simp [Op.equalIn, run_underlying hun]
omit [GT] in
theorem bin_eq {t : TypeId} {u v : Value} {r : Bool} (h : (Op.equalIn (9999 + 1) t u v).run P w = .ok r w) (hu : ∀ k n, u ≠ .int k n) (hf : ∀ k n, u ≠ .float k n) (hc : ∀ k n m, u ≠ .complex k n m) (hs : ∀ s, u ≠ .string s) : (Go.binOp .eql t u v).run P w = .ok (.bool r) w ∧ (Go.binOp .neq t u v).run P w = .ok (.bool !r) w := by
  have e1 : Go.binOp .eql t u v = (do pure (.bool (← Op.equal t u v))) := by
    cases u <;> first | rfl | (exact absurd rfl (hu _ _)) | (exact absurd rfl (hf _ _)) | (exact absurd rfl (hc _ _ _)) | (exact absurd rfl (hs _))
  have e2 : Go.binOp .neq t u v = (do pure (.bool (!(← Op.equal t u v)))) := by
    cases u <;> first | rfl | (exact absurd rfl (hu _ _)) | (exact absurd rfl (hf _ _)) | (exact absurd rfl (hc _ _ _)) | (exact absurd rfl (hs _))
  have h' : (Op.equal t u v).run P w = .ok r w := h
  rw [e1, e2]
  exact ⟨by rw [Sem.run_bind, h']; rfl, by rw [Sem.run_bind, h']; rfl⟩
theorem s_boolEq (hT : TOK P T) (hG : HR ρ D N M G w) (hev : EvOK a ρ D ev) {op : BinOp} {t t' : TypeId} {x y : Operand} (hop : o.op = .binOp op t x y t') {u v : Bool} (hx : ev x = some (ofV (.bool u))) (hy : ev y = some (ofV (.bool v))) {ty : Ty} (ht : look T t = some ty) (hu : ty.u = .bool) (b : Bool) (hb : op = .eql ∧ b = (u == v) ∨ op = .neq ∧ b = !(u == v)) : Sn P o a w ρ D N M G base { val := ofV (.bool b) } := by
  have hun : P.underlying t = some .bool := by have := (hT t ty ht).und; rw [hu] at this; exact this
  refine sn_same hG (bin_exec hop) ?_ rfl rfl
  rw [(hev x _ hx).1, (hev y _ hy).1]
  change ((eqGuard op t x y (.bool u) (.bool v)) >>= fun _ => Go.binOp op t (.bool u) (.bool v)).run P w = .ok (.bool b) w
  rw [Sem.run_bind, eqGuard_bool]
  have := bin_eq (P := P) (w := w) (t := t) (eq_bool hun u v 9999) (by simp) (by simp) (by simp) (by simp)
  rcases hb with ⟨rfl, rfl⟩ | ⟨rfl, rfl⟩
  · exact this.1
  · exact this.2
theorem s_ptrNil (hT : TOK P T) (hG : HR ρ D N M G w) (hev : EvOK a ρ D ev) {op : BinOp} {t t' : TypeId} {x y : Operand} (hop : o.op = .binOp op t x y t') {id off : Nat} (hx : ev x = some (.av (.one (.p id off)))) (hy : ev y = some (ofV (.pointer none))) {blk : Blk} (hb : G id = some blk) (hk : hasA blk = true) {ty : Ty} (ht : look T t = some ty) {e : TypeId} (hu : ty.u = .ptr e) (b : Bool) (hbb : op = .eql ∧ b = false ∨ op = .neq ∧ b = true) : Sn P o a w ρ D N M G base { val := ofV (.bool b) } := by
  have hun : P.underlying t = some (.pointer e) := by have := (hT t ty ht).und; rw [hu] at this; exact this
  obtain ⟨u, ha⟩ := (hG.blk id blk hb).2.2.hasA hk
  refine sn_same hG (bin_exec hop) ?_ rfl rfl
  rw [(hev x _ hx).1, (hev y _ hy).1, conc_p, ha]
  change ((eqGuard op t x y (.pointer (some (Addr.add u off))) (.pointer none)) >>= fun _ => Go.binOp op t (.pointer (some (Addr.add u off))) (.pointer none)).run P w = .ok (.bool b) w
  rw [Sem.run_bind, eqGuard_ptr]
  have := bin_eq (P := P) (w := w) (t := t) (eq_ptr hun (Addr.add u off) 9999) (by simp) (by simp) (by simp) (by simp)
  rcases hbb with ⟨rfl, rfl⟩ | ⟨rfl, rfl⟩
  · exact this.1
  · exact this.2
omit [GT] in
theorem eq_nil {t e : TypeId} (hun : P.underlying t = some (.pointer e)) (d : Nat) : (Op.equalIn (d + 1) t (.pointer none) (.pointer none)).run P w = .ok true w := by
  simp [Op.equalIn, run_underlying hun]
theorem s_nilNil (hT : TOK P T) (hG : HR ρ D N M G w) (hev : EvOK a ρ D ev) {op : BinOp} {t t' : TypeId} {x y : Operand} (hop : o.op = .binOp op t x y t') (hx : ev x = some (ofV (.pointer none))) (hy : ev y = some (ofV (.pointer none))) {ty : Ty} (ht : look T t = some ty) {e : TypeId} (hu : ty.u = .ptr e) (b : Bool) (hbb : op = .eql ∧ b = true ∨ op = .neq ∧ b = false) : Sn P o a w ρ D N M G base { val := ofV (.bool b) } := by
  have hun : P.underlying t = some (.pointer e) := by have := (hT t ty ht).und; rw [hu] at this; exact this
  refine sn_same hG (bin_exec hop) ?_ rfl rfl
  rw [(hev x _ hx).1, (hev y _ hy).1]
  change ((eqGuard op t x y (.pointer none) (.pointer none)) >>= fun _ => Go.binOp op t (.pointer none) (.pointer none)).run P w = .ok (.bool b) w
  rw [Sem.run_bind, eqGuard_ptr]
  have := bin_eq (P := P) (w := w) (t := t) (eq_nil hun 9999) (by simp) (by simp) (by simp) (by simp)
  rcases hbb with ⟨rfl, rfl⟩ | ⟨rfl, rfl⟩
  · exact this.1
  · exact this.2
theorem s_convInt (hT : TOK P T) (hG : HR ρ D N M G w) (hev : EvOK a ρ D ev) {s d : TypeId} {x : Operand} (hop : o.op = .convert s d x) {j : IntKind} {n : Int} (hx : ev x = some (ofV (.int j n))) {ty : Ty} (ht : look T d = some ty) {k : IntKind} (hu : ty.u = .int k) (hs : ∃ q, P.underlying s = some q) : Sn P o a w ρ D N M G base { val := ofV (.int k (k.wrap n)) } := by
  have hun : P.underlying d = some (.int k) := by have := (hT d ty ht).und; rw [hu] at this; exact this
  obtain ⟨q, hq⟩ := hs
  refine sn_same hG (s := Go.convert s d (a.eval x)) (by unfold execOp; rw [hop]; rfl) ?_ rfl rfl
  rw [(hev x _ hx).1]
  change (Go.convert s d (.int j n)).run P w = .ok (.int k (k.wrap n)) w
  unfold Go.convert
  simp [run_underlying hq, run_underlying hun, Conv.intToInt]

theorem rowOf_spec {sym : Bool} {sv : SV} {id off m : Nat} {b : Blk} {p : Asm} (h : rowOf sym G sv = some (id, off, m, b, p)) (hp : p.holds) (hG : HR ρ D N M G w) : G id = some b ∧ off + m ≤ widths b.c ∧ ∃ ad cap, sv.conc ρ = .slice ad m cap ∧ (0 < m → ∃ x, (ρ id).a = some x ∧ ad = some (x.add off)) := by
  have hw : ∀ {A B : Nat} {q : Asm}, within sym A B = some q → q.holds → A ≤ B := by
    intro A B q hq hh
    unfold within at hq
    split at hq
    · simp only [Option.some.injEq] at hq; subst hq; exact hh
    · split at hq
      · rename_i hle; exact Nat.le_of_ble_eq_true hle
      · cases hq
  unfold rowOf at h
  split at h
  · rename_i id' off' len' cap'
    split at h
    · rename_i b' hb'
      split at h
      · rename_i p' hp'
        simp only [Option.some.injEq, Prod.mk.injEq] at h
        obtain ⟨rfl, rfl, rfl, rfl, rfl⟩ := h
        have hle := hw hp' hp
        refine ⟨hb', hle, _, _, rfl, fun hm => ?_⟩
        have hbk := (hG.blk _ _ hb').2.2
        have hlt : off' < (segsVals ρ b'.c).length := by rw [segsVals_len]; omega
        obtain ⟨x, hx, _⟩ := hbk.cells (j := off') (List.getElem?_eq_getElem hlt)
        exact ⟨x, hx, by rw [hx]; rfl⟩
      · cases h
    · cases h
  · rename_i id' off' len' ad'
    split at h
    · rename_i b' hb'
      split at h
      · rename_i p' hp' hk
        simp only [Option.some.injEq, Prod.mk.injEq] at h
        obtain ⟨rfl, rfl, rfl, rfl, rfl⟩ := h
        have hle := hw hp' hp
        refine ⟨hb', hle, _, _, rfl, fun hm => ?_⟩
        have hbk := (hG.blk _ _ hb').2.2
        have hlt : off' < (segsVals ρ b'.c).length := by rw [segsVals_len]; omega
        obtain ⟨x, hx, _⟩ := hbk.cells (j := off') (List.getElem?_eq_getElem hlt)
        refine ⟨x, hx, ?_⟩
        have hcap : (segsVals ρ b'.c).length ≤ (ρ id').cap := by
          obtain ⟨k, bty, bc⟩ := b'
          have hk := Nat.le_of_ble_eq_true hk
          simp only at hk hlt
          match k, hk, hbk with
          | 1, _, hbk =>
            rcases hbk.2 with ⟨_, hn⟩ | ⟨g, cap, cur, hv, _, _, hnc, _⟩
            · simp only at hn; omega
            · injection hv with _ _ hv; simp only at hnc ⊢; omega
          | k + 2, _, hbk => exact hbk.1
        unfold radr
        rw [hx, if_neg (by omega)]
        rfl
      · cases h
    · cases h
  · cases h

omit [GT] in
theorem readSegs_spec (ρ : Nat → Loc) {h : Hint} {c l : List Seg} {off n : Nat} {p : Asm} (hr : readSegs h c off n = some (l, p)) (hle : off + n ≤ widths c) : segsVals ρ l = ((segsVals ρ c).drop off).take n ∧ (segsVals ρ l).length = n := by
  unfold readSegs at hr
  split at hr
  · split at hr
    · rename_i k zs
      simp only [Option.some.injEq, Prod.mk.injEq] at hr
      obtain ⟨rfl, _⟩ := hr
      simp only [widths, Seg.width, Nat.add_zero] at hle
      rw [segsVals_one, segsVals_one]
      simp only [Seg.vals]
      refine ⟨by rw [List.map_take, List.map_drop], ?_⟩
      rw [List.length_map, List.length_take, List.length_drop]; omega
    · rename_i k F m
      simp only [Option.some.injEq, Prod.mk.injEq] at hr
      obtain ⟨rfl, _⟩ := hr
      simp only [widths, Seg.width, Nat.add_zero] at hle
      rw [segsVals_one, segsVals_one]
      simp only [Seg.vals]
      refine ⟨by rw [List.map_take, List.map_drop], ?_⟩
      rw [List.length_map, List.length_take, List.length_drop]; omega
    · split at hr
      · rename_i l' hl
        simp only [Option.some.injEq, Prod.mk.injEq] at hr
        obtain ⟨rfl, _⟩ := hr
        exact getSegs_spec ρ hl
      · cases hr
  · split at hr
    · rename_i l' hl
      simp only [Option.some.injEq, Prod.mk.injEq] at hr
      obtain ⟨rfl, _⟩ := hr
      exact getSegs_spec ρ hl
    · cases hr
omit [GT] in
theorem sub_at {α : Type} {l m : List α} {off n : Nat} (h : l = (m.drop off).take n) : ∀ j u, l[j]? = some u → m[off + j]? = some u := by
  intro j u hj
  subst h
  have hlt := (List.getElem?_eq_some_iff.1 hj).1
  rw [List.length_take] at hlt
  rw [List.getElem?_take_of_lt (by omega), List.getElem?_drop] at hj
  exact hj
omit [GT] in
theorem foldl_push (ns : List Int) : ∀ (acc : ByteArray), ns.foldl (fun r n => r.push (UInt8.ofNat n.toNat)) acc = ⟨acc.data ++ (ns.map fun z => UInt8.ofNat z.toNat).toArray⟩ := by
  induction ns with
  | nil => intro acc; simp
  | cons n ns ih =>
    intro acc
    rw [List.foldl_cons, ih]
    congr 1
    simp [ByteArray.push]
theorem s_convStr (hT : TOK P T) (hG : HR ρ D N M G w) (hev : EvOK a ρ D ev) {s d : TypeId} {x : Operand} (hop : o.op = .convert s d x) {sv : SV} (hx : ev x = some sv) {ty : Ty} (ht : look T d = some ty) (hu : ty.u = .str) {ts : Ty} (hts : look T s = some ts) {e : TypeId} (hus : ts.u = .sl e) {te : Ty} (hte : look T e = some te) (hue : te.u = .int .u8)
    {h : Hint} {id off m : Nat} {b : Blk} {p1 p2 q : Asm} (hrow : rowOf h.sym G sv = some (id, off, m, b, p1)) (hp1 : p1.holds) {l : List Seg} (hl : readSegs h b.c off m = some (l, p2)) {zs : List Int} (hz : intsOf .u8 l = some zs) : Sn P o a w ρ D N M G base { val := ofV (.string (strOf zs)), asm := q } := by
  have hund : P.underlying d = some .string := by have := (hT d ty ht).und; rw [hu] at this; exact this
  have huns : P.underlying s = some (.slice e) := by have := (hT s ts hts).und; rw [hus] at this; exact this
  have hune : P.underlying e = some (.int .u8) := by have := (hT e te hte).und; rw [hue] at this; exact this
  obtain ⟨hb, hle, ad, cap, hconc, hpos⟩ := rowOf_spec hrow hp1 hG
  obtain ⟨e1, e2⟩ := readSegs_spec ρ hl hle
  have e3 := intsOf_spec ρ l zs hz
  refine sn_same hG (s := Go.convert s d (a.eval x)) (by unfold execOp; rw [hop]; rfl) ?_ rfl rfl
  rw [(hev x _ hx).1, hconc]
  change _ = Result.ok (Value.string (strOf zs)) w
  have hlen : zs.length = m := by rw [← e2, e3, List.length_map]
  rcases Nat.eq_zero_or_pos m with h0 | h0
  · subst h0
    have : zs = [] := List.eq_nil_of_length_eq_zero hlen
    subst this
    cases ad with
    | none => 
      unfold Go.convert
      simp [run_underlying huns, run_underlying hund, run_underlying hune, Conv.bytesToString]
      try rfl
    | some y =>
      rw [run_convert_bytes_string w s d e (some y) 0 cap huns hune hund, run_bytesToString w y 0 cap [] rfl]
      rfl
  · obtain ⟨y, hy, rfl⟩ := hpos h0
    obtain ⟨y', hy', hc⟩ := cells_at (l := segsVals ρ l) (off := off) hG hb (sub_at e1) (by omega)
    rw [hy] at hy'
    injection hy' with hy'
    subst hy'
    have hlc := run_loadCells_list (P := P) w (y.add off) (segsVals ρ l) hc
    rw [e2, e3] at hlc
    rw [run_convert_bytes_string w s d e (some (y.add off)) m cap huns hune hund, run_bytesToString w (y.add off) m cap zs hlc, foldl_push]
    simp [strOf]

theorem s_convNil (hT : TOK P T) (hG : HR ρ D N M G w) (hev : EvOK a ρ D ev) {s d : TypeId} {x : Operand} (hop : o.op = .convert s d x) {sv : SV} (hx : ev x = some sv) {ty : Ty} (ht : look T d = some ty) (hu : ty.u = .str) {ts : Ty} (hts : look T s = some ts) {e : TypeId} (hus : ts.u = .sl e) {te : Ty} (hte : look T e = some te) (hue : te.u = .int .u8) (hnil : isNil sv = true) : Sn P o a w ρ D N M G base { val := ofV (.string .empty) } := by
  have hund : P.underlying d = some .string := by have := (hT d ty ht).und; rw [hu] at this; exact this
  have huns : P.underlying s = some (.slice e) := by have := (hT s ts hts).und; rw [hus] at this; exact this
  have hune : P.underlying e = some (.int .u8) := by have := (hT e te hte).und; rw [hue] at this; exact this
  have hyc : sv.conc ρ = .slice none 0 0 := by
    unfold isNil at hnil
    split at hnil
    · rfl
    · cases hnil
  refine sn_same hG (s := Go.convert s d (a.eval x)) (by unfold execOp; rw [hop]; rfl) ?_ rfl rfl
  rw [(hev x _ hx).1, hyc]
  unfold Go.convert
  simp [run_underlying huns, run_underlying hund, run_underlying hune, Conv.bytesToString]
  rfl

/-- '[]byte(s)': a new row, to be read. -/
theorem s_convBytes (hT : TOK P T) (hG : HR ρ D N M G w) (hev : EvOK a ρ D ev) (hf : ¬ D base) {s d : TypeId} {x : Operand} (hop : o.op = .convert s d x) {str : ByteArray} (hx : ev x = some (ofV (.string str))) {ty : Ty} (ht : look T d = some ty) {e : TypeId} (hu : ty.u = .sl e) {ts : Ty} (hts : look T s = some ts) (hus : ts.u = .str) {te : Ty} (hte : look T e = some te) (hue : te.u = .int .u8) :
    Sn P o a w ρ D N M G base { val := .av (.one (.r base 0 (bytesOf str).length 0)), new := [⟨2, e, [.arr .u8 (bytesOf str)]⟩] } := by
  have huns : P.underlying s = some .string := by have := (hT s ts hts).und; rw [hus] at this; exact this
  have hund : P.underlying d = some (.slice e) := by have := (hT d ty ht).und; rw [hu] at this; exact this
  have hune : P.underlying e = some (.int .u8) := by have := (hT e te hte).und; rw [hue] at this; exact this
  have hrun := run_bytes_of_string (P := P) w s d e str huns hund hune
  have hcap := grownCap_ge w str.size 0 e
  have hlen : (bytesOf str).length = str.size := by
    unfold bytesOf
    rw [List.length_map]
    rfl
  generalize grownCap w str.size 0 e = cap at *
  obtain ⟨w', hw'⟩ : ∃ w', w' = w.drew.alloc (.cells (bytesRow str cap) e ((bytesRow str cap).size, (bytesRow str cap).size + 1)) := ⟨_, rfl⟩
  rw [← hw'] at hrun
  have hsz : w'.heap.size = w.heap.size + 1 := by
    rw [hw']
    show (w.heap.push _).size = _
    simp
  have hbel : Below w.heap.size w w' := by
    rw [hw']
    refine ⟨rfl, rfl, rfl, ?_, fun k hk => ?_⟩
    · show w.heap.size ≤ (w.heap.push _).size
      simp
    · show (w.heap.push _)[k]? = _
      rw [Array.getElem?_push]
      rw [if_neg (by omega)]
  have hblk : w'.heap[w.heap.size]? = some (.cells (bytesRow str cap) e ((bytesRow str cap).size, (bytesRow str cap).size + 1)) := by
    rw [hw']
    show (w.heap.push _)[w.heap.size]? = _
    simp
  refine gives_of (s := Go.convert s d (a.eval x)) (by unfold execOp; rw [hop]; rfl) (by rw [(hev x _ hx).1]; exact hrun) ⟨_, fits_fresh (l := ⟨some ⟨w.heap.size, 0, none⟩, cap⟩) hG hbel (b := ⟨2, e, [.arr .u8 (bytesOf str)]⟩) hf rfl rfl (fun s hs => (by simp at hs; subst hs; trivial)) ?_ (fun y hy => ?_) ?_⟩
  · show (segsVals _ _).length ≤ _ ∧ _
    rw [segsVals_one, up_self]
    simp only [Seg.vals, List.length_map]
    refine ⟨by rw [hlen]; exact hcap, .inr ⟨_, rfl, fun j u hj => ?_⟩⟩
    rw [Addr.add_lit]
    simp only [World.cell?, hblk, Nat.zero_add]
    have hjl : j < (bytesOf str).length := by
      have := (List.getElem?_eq_some_iff.1 hj).1
      simpa using this
    rw [List.getElem?_map, List.getElem?_eq_getElem hjl] at hj
    simp only [Option.map_some, Option.some.injEq] at hj
    subst hj
    unfold bytesRow
    have hjs : j < (str.data.map (fun b => Value.int .u8 b.toNat)).size := by
      rw [Array.size_map]
      have : str.data.size = str.size := rfl
      omega
    rw [Array.getElem?_append_left hjs, Array.getElem?_eq_getElem hjs]
    simp [bytesOf]
  · injection hy with hy
    subst hy
    exact ⟨Nat.le_refl _, by simp only; omega⟩
  · simp only [SV.conc, AV.conc, Seg.conc, up_self, radr, Option.map_some, Addr.add_lit, Nat.sub_zero, hlen]
    split <;> rfl

/-- A row of a block whose contents are known, as one more block to be read. -/
theorem fits_ro (hG : HR ρ D N M G w) {a : Option Addr} {len cap : Nat} {k : IntKind} {zs : List Int} (ht : TabRow GT.tab a len cap k zs) (hf : ¬ D base) {r : Res} {v : Value} (hn : r.new = [⟨2, 0, [.arr k zs]⟩]) (hu : r.upd = [(Nat.succ base, none)]) (hv : v = r.val.conc (up ρ base ⟨a, cap⟩)) : Fits ρ D N M G base r w (up ρ base ⟨a, cap⟩) v w := by
  have hag : ∀ i, D i → up ρ base ⟨a, cap⟩ i = ρ i := up_agree hf
  obtain ⟨hzl, hlc, hz, htab⟩ := ht
  have hblk : ∀ y, a = some y → y.block < N ∧ y.block ∉ M := fun y hy => by
    obtain ⟨x, hx, hxb, _⟩ := htab y hy
    obtain ⟨h1, h2, _⟩ := hG.gw x hx
    rw [← hxb]
    exact ⟨h1, h2⟩
  have hcell : ∀ y, a = some y → ∀ (j : Nat) (u : Value), (zs.map (Value.int k))[j]? = some u → w.cell? (y.add j) = some u := fun y hy j u hj => by
    obtain ⟨x, hx, hxb, hc⟩ := htab y hy
    obtain ⟨_, _, cs, ty, mk, h3, h4⟩ := hG.gw x hx
    obtain ⟨hsp, hcc⟩ := hc j u hj
    have hb : (y.add j).block = y.block := by
      unfold Addr.add
      split <;> rfl
    unfold World.cell?
    rw [hb, ← hxb, h3, hsp]
    simp only [Option.isSome_none, Bool.false_eq_true, if_false]
    rw [← hcc, ← h4, Array.getElem?_toList]
  refine ⟨hag, hv, ?_, Kept.refl _ _ _, fun hnil => by rw [hu] at hnil; cases hnil⟩
  have ha : ∀ i, appl G base r i = if i = Nat.succ base then none else if i = base then some ⟨2, 0, [.arr k zs]⟩ else G i := fun i => by
    unfold appl
    rw [hu, hn]
    simp only [look, List.length_cons, List.length_nil]
    by_cases h : i = Nat.succ base
    · subst h; simp
    · have : Nat.beq (Nat.succ base) i = false := by
        cases hq : Nat.beq (Nat.succ base) i
        · rfl
        · exact absurd (Nat.eq_of_beq_eq_true hq).symm h
      rw [this, if_neg h]
      simp only
      by_cases h2 : i = base
      · subst h2; simp
      · rw [if_neg (by omega), if_neg h2]
  have hbs : base ≠ Nat.succ base := by omega
  refine hG.step (U := fun i => i = base) hag (fun i h => .inl h) (Kept.refl _ _ _) (fun i b' hb' hU => ?_) (fun i b' x hb' hU hx => rfl) (fun i b' hb' hU => ?_) (fun i b' x hb' hU hx => ?_) (fun i b' x hb' hU hk' hx => ?_) (fun i j bi bj x y hi hj hij hU hk' hx hy => ?_)
  · rw [ha] at hb'
    by_cases hid : i = Nat.succ base
    · rw [if_pos hid] at hb'; cases hb'
    · rw [if_neg hid, if_neg hU] at hb'; exact hb'
  · subst hU
    rw [ha, if_neg hbs, if_pos rfl] at hb'
    injection hb' with hb'
    subst hb'
    refine ⟨.inr ⟨Nat.le_refl _, by rw [hn]; simp⟩, (fun s hs => by simp at hs; subst hs; trivial), ?_⟩
    show (segsVals _ [Seg.arr k zs]).length ≤ _ ∧ _
    rw [segsVals_one, up_self]
    refine ⟨by simp only [Seg.vals, List.length_map]; omega, ?_⟩
    rcases hz with hz | ⟨y, hy⟩
    · left
      rw [hz]
      rfl
    · right
      exact ⟨y, hy, hcell y hy⟩
  · subst hU
    rw [up_self] at hx
    exact Nat.lt_of_lt_of_le (hblk x hx).1 hG.size
  · subst hU
    rw [ha, if_neg hbs, if_pos rfl] at hb'
    injection hb' with hb'
    subst hb'
    simp only at hk'
    omega
  · by_cases hib : i = base
    · subst hib
      rw [ha, if_neg hbs, if_pos rfl] at hi
      injection hi with hi
      subst hi
      simp only at hk'
      omega
    · rcases hU with hU | hU
      · exact absurd hU hib
      · subst hU
        rw [up_self] at hy
        rw [ha] at hi
        by_cases his : i = Nat.succ j
        · rw [if_pos his] at hi; cases hi
        · rw [if_neg his, if_neg hib] at hi
          rw [hag i (hG.blk i bi hi).1] at hx
          have h1 := hG.own i bi x hi hk' hx
          obtain ⟨h2, h3⟩ := hblk y hy
          intro e
          rcases h1 with h1 | h1
          · omega
          · exact h3 (e ▸ h1)
theorem s_load_ro (hT : TOK P T) (hG : HR ρ D N M G w) (hev : EvOK a ρ D ev) (hf : ¬ D base) {t : TypeId} {x : Operand} (hop : o.op = .load t x) {ty : Ty} (ht : look T t = some ty) (hagg : ty.u.agg = false) {id off : Nat} (hx : ev x = some (.av (.one (.p id off)))) {b : Blk} (hb : G id = some b) {ad : Option Addr} {len cap : Nat} {k : IntKind} {zs : List Int} (hl : (segsVals ρ b.c)[off]? = some (.slice ad len cap)) (htr : TabRow GT.tab ad len cap k zs) {p : Asm} :
    Sn P o a w ρ D N M G base { val := .av (.one (.s base 0 len cap)), new := [⟨2, 0, [.arr k zs]⟩], upd := [(Nat.succ base, none)], asm := p } := by
  have hty := hT t ty ht
  obtain ⟨hv, _⟩ := hev x _ hx
  obtain ⟨y, hy, hc⟩ := cells_at (l := [.slice ad len cap]) (off := off) hG hb (fun j u hj => by
    cases j with
    | zero => simp only [List.getElem?_cons_zero, Option.some.injEq] at hj; subst hj; exact hl
    | succ j => simp at hj) (by simp)
  refine gives_of (s := Instr.loadAt t (a.eval x)) (v := .slice ad len cap) (w' := w) (by unfold execOp; rw [hop]; rfl) ?_ ⟨_, fits_ro hG htr hf rfl rfl ?_⟩
  · rw [hv, conc_p, hy]
    simp only [Option.map_some]
    have hc0 := hc 0 _ rfl
    have : (y.add off).add 0 = y.add off := by simp [Addr.add]
    rw [this] at hc0
    simp [Instr.loadAt, Instr.sureAddr, loadVar, hty.agg, hagg, hc0]
  · simp only [SV.conc, AV.conc, Seg.conc, up_self]
    cases ad <;> simp [Addr.add]
/-- A block that only its own name reaches is told anew, to be read only, where it lies. -/
theorem fits_move {w' : World} (hG : HR ρ D N M G w) {id : Nat} {b b2 : Blk} (hb : G id = some b) (hk : b.k < 2) {g : Nat} (hg : (ρ id).a = some ⟨g, 0, none⟩) (hw : ∀ k, k ≠ g → w'.heap[k]? = w.heap[k]?) (hsz : w'.heap.size = w.heap.size) (hos : w'.os = w.os) (htp : w'.tape = w.tape) (hou : w'.output = w.output)
    (hk2 : 2 ≤ b2.k) {l : Loc} (hl : l.a = (ρ id).a) (hf : ¬ D base) {r : Res} {v : Value} (hn : r.new = [b2]) (hu : r.upd = [(id, none)]) (hin : segsIn D b2.c) (hok : BlkOK (up ρ base l) w' base b2) (hv : v = r.val.conc (up ρ base l)) : Fits ρ D N M G base r w (up ρ base l) v w' := by
  have hag : ∀ i, D i → up ρ base l i = ρ i := up_agree hf
  have hgo := hG.own id b _ hb hk hg
  simp only at hgo
  have hgl : g < w.heap.size := hG.lt id b _ hb hg
  have hne : id ≠ base := fun e => hf (e ▸ (hG.blk id b hb).1)
  have hkp : Kept N M w w' := ⟨hos, htp, hou, Nat.le_of_eq hsz.symm, fun k hk hm => hw k fun e => by
    subst e
    rcases hgo with h | h
    · omega
    · exact hm h⟩
  refine ⟨hag, hv, ?_, hkp, fun hnil => by rw [hu] at hnil; cases hnil⟩
  have ha : ∀ i, appl G base r i = if i = id then none else if i = base then some b2 else G i := fun i => by
    unfold appl
    rw [hu, hn]
    simp only [look, List.length_cons, List.length_nil]
    by_cases h : i = id
    · subst h; simp
    · have : Nat.beq id i = false := by
        cases hq : Nat.beq id i
        · rfl
        · exact absurd (Nat.eq_of_beq_eq_true hq).symm h
      rw [this, if_neg h]
      simp only
      by_cases h2 : i = base
      · subst h2; simp
      · rw [if_neg (by omega), if_neg h2]
  refine hG.step (U := fun i => i = base) hag (fun i h => .inl h) hkp (fun i b' hb' hU => ?_) (fun i b' x hb' hU hx => ?_) (fun i b' hb' hU => ?_) (fun i b' x hb' hU hx => ?_) (fun i b' x hb' hU hk' hx => ?_) (fun i j bi bj x y hi hj hij hU hk' hx hy => ?_)
  · rw [ha] at hb'
    by_cases hid : i = id
    · rw [if_pos hid] at hb'; cases hb'
    · rw [if_neg hid, if_neg hU] at hb'; exact hb'
  · rw [ha] at hb'
    by_cases hid : i = id
    · rw [if_pos hid] at hb'; cases hb'
    · rw [if_neg hid, if_neg hU] at hb'
      refine hw _ fun e => ?_
      have := hG.dist id i b b' _ x hb hb' (fun e => hid e.symm) hk hg hx
      exact this e.symm
  · subst hU
    rw [ha, if_neg (fun e => hne e.symm), if_pos rfl] at hb'
    injection hb' with hb'
    subst hb'
    exact ⟨.inr ⟨Nat.le_refl _, by rw [hn]; simp⟩, hin.mono fun i h => .inl h, hok⟩
  · subst hU
    rw [up_self, hl, hg] at hx
    injection hx with hx
    subst hx
    show g < w'.heap.size
    omega
  · subst hU
    rw [ha, if_neg (fun e => hne e.symm), if_pos rfl] at hb'
    injection hb' with hb'
    subst hb'
    omega
  · rw [ha] at hi hj
    by_cases hi1 : i = id
    · rw [if_pos hi1] at hi; cases hi
    · rw [if_neg hi1] at hi
      by_cases hj1 : j = id
      · rw [if_pos hj1] at hj; cases hj
      · rw [if_neg hj1] at hj
        by_cases h1 : i = base
        · rw [if_pos h1] at hi
          injection hi with hi
          subst hi
          omega
        · have h2 : j = base := hU.resolve_left h1
          subst h2
          rw [if_neg h1] at hi
          rw [up_self, hl, hg] at hy
          injection hy with hy
          subst hy
          rw [hag i (hG.blk i bi hi).1] at hx
          exact fun e => hG.dist id i b bi _ x hb hi (fun e => hi1 e.symm) hk hg hx e.symm
omit [GT] in
theorem run_mark {w : World} {s e : TypeId} {g len cap : Nat} (huns : P.underlying s = some (.slice e)) (hune : P.underlying e = some (.int .u8)) {vals : Array Value} {ty : TypeId} {mk : Nat × Nat} (hg : w.heap[g]? = some (.cells vals ty mk)) :
    (Go.convert s s (.slice (some ⟨g, 0, none⟩) len cap)).run P w = .ok (.slice (some ⟨g, 0, none⟩) len cap) (w.freeze ⟨g, vals.size, none⟩ 1) := by
  unfold Go.convert
  simp [run_underlying huns, run_underlying hune, markStringish, shape, freeze, Sem.run, World.shape?, hg]
omit [GT] in
theorem freeze_heap {w : World} {g off n : Nat} (hn : n ≠ 0) {vals : Array Value} {ty : TypeId} {mk : Nat × Nat} (hg : w.heap[g]? = some (.cells vals ty mk)) : ∃ mk', (w.freeze ⟨g, off, none⟩ n).heap[g]? = some (.cells vals ty mk') := by
  obtain ⟨lo, hi⟩ := mk
  unfold World.freeze
  rw [if_neg hn]
  simp [Array.getElem?_modify, hg]
omit [GT] in
theorem freeze_other {w : World} {g off n k : Nat} (hk : k ≠ g) : (w.freeze ⟨g, off, none⟩ n).heap[k]? = w.heap[k]? := by
  unfold World.freeze
  split
  · rfl
  · simp only [Array.getElem?_modify]
    rw [if_neg (fun e => hk e.symm)]
omit [GT] in
theorem freeze_size {w : World} {g off n : Nat} : (w.freeze ⟨g, off, none⟩ n).heap.size = w.heap.size := by
  unfold World.freeze
  split
  · rfl
  · simp
theorem s_convMark (hT : TOK P T) (hG : HR ρ D N M G w) (hev : EvOK a ρ D ev) (hf : ¬ D base) {t : TypeId} {x : Operand} (hop : o.op = .convert t t x) {id len : Nat} (hx : ev x = some (.av (.one (.s id 0 len len)))) {b : Blk} (hb : G id = some b) (hk : b.k = 0) (hlen : widths b.c = len) {ty : Ty} (ht : look T t = some ty) {e : TypeId} (hu : ty.u = .sl e) {te : Ty} (hte : look T e = some te) (hue : te.u = .int .u8) :
    Sn P o a w ρ D N M G base { val := .av (.one (.r base 0 len 0)), new := [⟨2, e, b.c⟩], upd := [(id, none)] } := by
  have hund : P.underlying t = some (.slice e) := by have := (hT t ty ht).und; rw [hu] at this; exact this
  have hune : P.underlying e = some (.int .u8) := by have := (hT e te hte).und; rw [hue] at this; exact this
  obtain ⟨hD, hin, hok⟩ := hG.blk id b hb
  obtain ⟨k, bty, c⟩ := b
  simp only at hk hlen
  subst hk
  obtain ⟨g, ha, hg⟩ : ∃ g, (ρ id).a = some ⟨g, 0, none⟩ ∧ w.heap[g]? = some (.cells (segsVals ρ c).toArray bty (0, 0)) := hok
  have hl := segsVals_len ρ c
  obtain ⟨mk', hg'⟩ := freeze_heap (w := w) (g := g) (off := (segsVals ρ c).toArray.size) (n := 1) (by omega) hg
  have hag : ∀ i, D i → up ρ base ⟨(ρ id).a, len⟩ i = ρ i := up_agree hf
  have hvs : segsVals (up ρ base ⟨(ρ id).a, len⟩) c = segsVals ρ c := segsVals_congr hag hin
  have hxc : (SV.av (.one (.s id 0 len len))).conc ρ = .slice (some ⟨g, 0, none⟩) len len := by
    simp [SV.conc, AV.conc, Seg.conc, ha, Addr.add]
  refine gives_of (s := Go.convert t t (a.eval x)) (by unfold execOp; rw [hop]; rfl) (by rw [(hev x _ hx).1, hxc]; exact run_mark hund hune hg) ⟨_, fits_move (l := ⟨(ρ id).a, len⟩) hG hb (by show 0 < 2; omega) ha (fun k hk => freeze_other hk) freeze_size (by unfold World.freeze; split <;> rfl) (by unfold World.freeze; split <;> rfl) (by unfold World.freeze; split <;> rfl) (Nat.le_refl 2) rfl hf rfl rfl hin ?_ ?_⟩
  · show (segsVals _ c).length ≤ _ ∧ _
    rw [up_self, hvs]
    refine ⟨by show _ ≤ len; omega, .inr ⟨_, ha, fun j u hj => ?_⟩⟩
    rw [Addr.add_lit]
    simp only [World.cell?, hg', Nat.zero_add]
    simpa using hj
  · simp only [SV.conc, AV.conc, Seg.conc, up_self, radr, ha, Option.map_some, Addr.add_lit, Nat.sub_zero]
    split <;> rfl

end
end Go.Proofs.YtmhmfmnjdbehcaaDoor.Am
/- The abstract machine: operation by operation: places, slices, what is built in. Conditions: none. -/
namespace Go.Proofs.YtmhmfmnjdbehcaaDoor.Am
set_option linter.unusedVariables false
set_option linter.unusedSimpArgs false
open Go Go.RowKit
open Rg (gives)

section
variable {P : Program} {T : List (Nat × Ty)} {ρ : Nat → Loc} {D : Nat → Prop} {N : Nat} {M : List Nat} {G : Nat → Option Blk} {base : Nat} {w : World} {o : Oper} {a : Act} {ev : Operand → Option SV}
variable [GT]

theorem natOf_spec {sym : Bool} {hi n : Nat} {s : SV} {p : Asm} (h : natOf sym hi s = some (n, p)) (hp : p.holds) : ∃ k z, s.conc ρ = .int k z ∧ 0 ≤ z ∧ z.toNat = n ∧ n ≤ hi := by
  unfold natOf at h
  split at h
  · rename_i k z
    split at h
    · simp only [Option.some.injEq, Prod.mk.injEq] at h
      obtain ⟨rfl, rfl⟩ := h
      exact ⟨k, z, rfl, hp.1, rfl, hp.2⟩
    · split at h
      · rename_i m
        split at h
        · rename_i hle
          simp only [Option.some.injEq, Prod.mk.injEq] at h
          obtain ⟨rfl, _⟩ := h
          exact ⟨k, _, rfl, by simp, rfl, Nat.le_of_ble_eq_true hle⟩
        · cases h
      · cases h
  · cases h
theorem within_spec {sym : Bool} {A B : Nat} {q : Asm} (hq : within sym A B = some q) (hh : q.holds) : A ≤ B := by
  unfold within at hq
  split at hq
  · simp only [Option.some.injEq] at hq; subst hq; exact hh
  · split at hq
    · rename_i hle; exact Nat.le_of_ble_eq_true hle
    · cases hq
omit [GT] in
theorem add_add (x : Addr) (m n : Nat) : (x.add m).add n = x.add (m + n) := by
  by_cases h1 : m = 0
  · subst h1; simp [Addr.add]
  · by_cases h2 : n = 0
    · subst h2; simp [Addr.add, h1]
    · simp [Addr.add, h1, h2, Nat.add_assoc]
theorem s_indexAddr_arr (hT : TOK P T) (hG : HR ρ D N M G w) (hev : EvOK a ρ D ev) {t : TypeId} {x i : Operand} (hop : o.op = .indexAddr t x i) {ty : Ty} (ht : look T t = some ty) {n : Nat} {e : TypeId} (hu : ty.u = .arr n e) {te : Ty} (he : look T e = some te) {id off : Nat} (hx : ev x = some (.av (.one (.p id off)))) {b : Blk} (hb : G id = some b) (hk : hasA b = true) {s : SV} (hi : ev i = some s) {sym : Bool} {j : Nat} {p q : Asm} (hj : natOf sym (n - 1) s = some (j, p)) (hp : p.holds) (hn : 1 ≤ n) :
    Sn P o a w ρ D N M G base { val := .av (.one (.p id (plusO off (mulO j te.size)))), asm := q } := by
  have hun : P.underlying t = some (.array n e) := by have := (hT t ty ht).und; rw [hu] at this; exact this
  obtain ⟨k, z, hz, h0, hzj, hle⟩ := natOf_spec (ρ := ρ) hj hp
  obtain ⟨u, ha⟩ := (hG.blk id b hb).2.2.hasA hk
  refine sn_same hG (s := Instr.indexAt t (a.eval x) (a.eval i)) (by unfold execOp; rw [hop]; rfl) ?_ rfl rfl
  rw [(hev x _ hx).1, (hev i _ hi).1, hz, conc_p, conc_p, ha]
  have hlt : 0 ≤ z ∧ z < (n : Int) := by omega
  simp only [Option.map_some, Instr.indexAt, asIntOf, Sem.run_bind, Sem.run_pure, Result.andThen_ok, run_underlying hun, Instr.sureAddr, if_pos hlt, (hT e te he).run_size, hzj, add_add, plusO_eq, mulO_eq]
theorem s_indexAddr_sl (hT : TOK P T) (hG : HR ρ D N M G w) (hev : EvOK a ρ D ev) {t : TypeId} {x i : Operand} (hop : o.op = .indexAddr t x i) {ty : Ty} (ht : look T t = some ty) {e : TypeId} (hu : ty.u = .sl e) {te : Ty} (he : look T e = some te) {sv : SV} (hx : ev x = some sv) {sym : Bool} {id off m : Nat} {b : Blk} {p1 : Asm} (hrow : rowOf sym G sv = some (id, off, m, b, p1)) (hp1 : p1.holds) {s : SV} (hi : ev i = some s) {j : Nat} {p q : Asm} (hj : natOf sym (m - 1) s = some (j, p)) (hp : p.holds) (hm : 1 ≤ m) :
    Sn P o a w ρ D N M G base { val := .av (.one (.p id (plusO off (mulO j te.size)))), asm := q } := by
  have hun : P.underlying t = some (.slice e) := by have := (hT t ty ht).und; rw [hu] at this; exact this
  obtain ⟨k, z, hz, h0, hzj, hle⟩ := natOf_spec (ρ := ρ) hj hp
  obtain ⟨hb, hlen, ad, cap, hconc, hpos⟩ := rowOf_spec hrow hp1 hG
  obtain ⟨y, hy, rfl⟩ := hpos (by omega)
  refine sn_same hG (s := Instr.indexAt t (a.eval x) (a.eval i)) (by unfold execOp; rw [hop]; rfl) ?_ rfl rfl
  rw [(hev x _ hx).1, (hev i _ hi).1, hz, hconc, conc_p, hy]
  have hlt : 0 ≤ z ∧ z < (m : Int) := by omega
  simp only [Option.map_some, Instr.indexAt, asIntOf, Sem.run_bind, Sem.run_pure, Result.andThen_ok, run_underlying hun, if_pos hlt, (hT e te he).run_size, hzj, add_add, plusO_eq, mulO_eq]
theorem s_fieldAddr (hT : TOK P T) (hG : HR ρ D N M G w) (hev : EvOK a ρ D ev) {t : TypeId} {x : Operand} {f : Nat} (hop : o.op = .fieldAddr t x f) {ty : Ty} (ht : look T t = some ty) {fs : List (Nat × TypeId)} (hu : ty.u = .st fs) {id off : Nat} (hx : ev x = some (.av (.one (.p id off)))) {b : Blk} (hb : G id = some b) (hk : hasA b = true) {o' n : Nat} (hpl : place T (.st fs) f = some (o', n)) (hn : 1 ≤ n) :
    Sn P o a w ρ D N M G base { val := .av (.one (.p id (off + o'))) } := by
  have hun : UOK P t (.st fs) := by have := (hT t ty ht).und; rw [hu] at this; exact this
  obtain ⟨fields, hd, hfs, pls, hpls⟩ := hun
  have hp := place_st hT hfs hpls hpl
  obtain ⟨u, ha⟩ := (hG.blk id b hb).2.2.hasA hk
  -- the field itself
  simp only [place] at hpl
  split at hpl
  · rename_i off' t' hft
    rw [hfs, List.getElem?_map, Option.map_eq_some_iff] at hft
    obtain ⟨fl, hfl, hft⟩ := hft
    simp only [Prod.mk.injEq] at hft
    obtain ⟨rfl, rfl⟩ := hft
    split at hpl
    · rename_i ty' hty'
      simp only [Option.some.injEq, Prod.mk.injEq] at hpl
      obtain ⟨rfl, rfl⟩ := hpl
      refine sn_same hG (s := Instr.fieldAt t (a.eval x) f) (by unfold execOp; rw [hop]; rfl) ?_ rfl rfl
      rw [(hev x _ hx).1, conc_p, conc_p, ha]
      have hfl' : fields[f]? = some fl := by simpa using hfl
      have hsz := (hT _ _ hty').run_size (w := w)
      simp only [Option.map_some, Instr.fieldAt, Sem.run_bind, Sem.run_pure, Result.andThen_ok, run_underlying hd, hfl', Instr.sureAddr, fieldPlace, hsz]
      rw [if_neg (by omega)]
      simp only [Sem.run_pure, Result.andThen_ok, add_add]
    · cases hpl
  · cases hpl
theorem s_arrPtr (hT : TOK P T) (hG : HR ρ D N M G w) (hev : EvOK a ρ D ev) {t : TypeId} {x : Operand} (hop : o.op = .sliceToArrayPointer t x) {ty : Ty} (ht : look T t = some ty) {n : Nat} {e : TypeId} (hu : ty.u = .arr n e) {sv : SV} (hx : ev x = some sv) {sym : Bool} {id off m : Nat} {b : Blk} {p1 q : Asm} (hrow : rowOf sym G sv = some (id, off, m, b, p1)) (hp1 : p1.holds) (hnm : n ≤ m) (hn : 1 ≤ n) :
    Sn P o a w ρ D N M G base { val := .av (.one (.p id off)), asm := q } := by
  have hun : P.underlying t = some (.array n e) := by have := (hT t ty ht).und; rw [hu] at this; exact this
  obtain ⟨hb, hlen, ad, cap, hconc, hpos⟩ := rowOf_spec hrow hp1 hG
  obtain ⟨y, hy, rfl⟩ := hpos (by omega)
  refine sn_same hG (s := Instr.arrayAt t (a.eval x)) (by unfold execOp; rw [hop]; rfl) ?_ rfl rfl
  rw [(hev x _ hx).1, hconc, conc_p, hy]
  simp only [Option.map_some, Instr.arrayAt, Sem.run_bind, Sem.run_pure, Result.andThen_ok, run_underlying hun]
  rw [if_neg (by omega)]
  rfl
omit [GT] in
theorem part_agg {t : TypeId} {ty : Ty} (hty : TyOK P t ty) (hagg : ty.u.agg = true) {c l : List Seg} {off : Nat} (hl : getSegs c off ty.size = some l) : (part t (segsVals ρ c).toArray off).run P w = .ok (.agg (segsVals ρ l).toArray) w := by
  obtain ⟨e1, _⟩ := getSegs_spec ρ hl
  simp only [part, Sem.run_bind, hty.agg, hagg, if_true, Result.andThen_ok, hty.run_size, Sem.run_pure]
  rw [e1]
  congr 2
  rw [← Array.toList_inj, Array.toList_extract]
  simp [List.extract_eq_take_drop]
omit [GT] in
theorem part_one {t : TypeId} {ty : Ty} (hty : TyOK P t ty) (hagg : ty.u.agg = false) {c : List Seg} {off : Nat} {u : Value} (hl : (segsVals ρ c)[off]? = some u) : (part t (segsVals ρ c).toArray off).run P w = .ok u w := by
  have : (segsVals ρ c).toArray[off]? = some u := by simpa using hl
  simp [part, hty.agg, hagg, this]
theorem readAt_spec {t : TypeId} {ty : Ty} (hty : TyOK P t ty) {sym : Bool} {c : List Seg} {off : Nat} {s : SV} {p : Asm} (h : readAt ty sym c off = some (s, p)) (hp : p.holds) : (part t (segsVals ρ c).toArray off).run P w = .ok (s.conc ρ) w ∧ (ty.u.agg = false → (segsVals ρ c)[off]? = some (s.conc ρ)) ∧ (ty.u.agg = true → ∃ l, getSegs c off ty.size = some l ∧ s = .av (mkAgg l) ∧ 1 ≤ ty.size) := by
  unfold readAt at h
  split at h
  · rename_i hagg
    split at h
    · rename_i l hl hle
      simp only [Option.some.injEq, Prod.mk.injEq] at h
      obtain ⟨rfl, _⟩ := h
      rw [conc_av, mkAgg_conc]
      exact ⟨part_agg hty hagg hl, (fun h => by rw [hagg] at h; cases h), fun _ => ⟨l, hl, rfl, Nat.le_of_ble_eq_true hle⟩⟩
    · cases h
  · rename_i hagg
    have key : (segsVals ρ c)[off]? = some (s.conc ρ) → _ := fun hh => (⟨part_one hty hagg hh, fun _ => hh, (fun h => by rw [hagg] at h; cases h)⟩ : (part t (segsVals ρ c).toArray off).run P w = .ok (s.conc ρ) w ∧ (ty.u.agg = false → (segsVals ρ c)[off]? = some (s.conc ρ)) ∧ (ty.u.agg = true → ∃ l, getSegs c off ty.size = some l ∧ s = .av (mkAgg l) ∧ 1 ≤ ty.size))
    split at h
    · split at h
      · rename_i k zs
        simp only [Option.some.injEq, Prod.mk.injEq] at h
        obtain ⟨rfl, rfl⟩ := h
        refine key ?_
        rw [segsVals_one]
        have hp' : off < zs.length := hp
        simp [Seg.vals, ofV, SV.conc, AV.conc, Seg.conc, List.getElem?_eq_getElem hp', List.getD_eq_getElem?_getD]
      · rename_i k F n
        simp only [Option.some.injEq, Prod.mk.injEq] at h
        obtain ⟨rfl, rfl⟩ := h
        refine key ?_
        rw [segsVals_one]
        have hp' : off < (F n).length := hp
        simp [Seg.vals, ofV, SV.conc, AV.conc, Seg.conc, List.getElem?_eq_getElem hp', List.getD_eq_getElem?_getD]
      · rename_i m
        simp only [Option.some.injEq, Prod.mk.injEq] at h
        obtain ⟨rfl, rfl⟩ := h
        refine key ?_
        rw [segsVals_one]
        have hp' : off < 4 := hp
        match off, hp' with
        | 0, _ | 1, _ | 2, _ | 3, _ => rfl
      · cases h
    · split at h
      · rename_i x hx
        simp only [Option.some.injEq, Prod.mk.injEq] at h
        obtain ⟨rfl, _⟩ := h
        exact key (cell_spec ρ c off x hx)
      · cases h
theorem s_index (hT : TOK P T) (hG : HR ρ D N M G w) (hev : EvOK a ρ D ev) {t : TypeId} {x i : Operand} (hop : o.op = .index t x i) {ty : Ty} (ht : look T t = some ty) {n : Nat} {e : TypeId} (hu : ty.u = .arr n e) {te : Ty} (he : look T e = some te) {b : AV} (hx : ev x = some (.av b)) (hok : segsOk b.segs = true) {s : SV} (hi : ev i = some s) {sym : Bool} {j : Nat} {p p' q : Asm} (hj : natOf sym (n - 1) s = some (j, p)) (hp : p.holds) (hn : 1 ≤ n) {v : SV} (hr : readAt te sym b.segs (mulO j te.size) = some (v, p')) (hp' : p'.holds) (hagg : ∃ cs, b.conc ρ = .agg cs) :
    Sn P o a w ρ D N M G base { val := v, asm := q } := by
  rw [mulO_eq] at hr
  have hun : P.underlying t = some (.array n e) := by have := (hT t ty ht).und; rw [hu] at this; exact this
  obtain ⟨k, z, hz, h0, hzj, hle⟩ := natOf_spec (ρ := ρ) hj hp
  obtain ⟨cs, hcs⟩ := hagg
  have hcells := AV.cells ρ hok
  rw [hcs] at hcells
  have hcells' : cs = (segsVals ρ b.segs).toArray := hcells
  refine sn_same hG (s := Instr.index t (a.eval x) (a.eval i)) (by unfold execOp; rw [hop]; rfl) ?_ rfl rfl
  rw [(hev x _ hx).1, (hev i _ hi).1, hz, conc_av, hcs, hcells']
  have hlt : 0 ≤ z ∧ z < (n : Int) := by omega
  simp only [Instr.index, asIntOf, Sem.run_bind, Sem.run_pure, Result.andThen_ok, run_underlying hun, if_pos hlt, (hT e te he).run_size, hzj]
  exact (readAt_spec (hT e te he) hr hp').1
theorem s_field (hT : TOK P T) (hG : HR ρ D N M G w) (hev : EvOK a ρ D ev) {t : TypeId} {x : Operand} {f : Nat} (hop : o.op = .field t x f) {ty : Ty} (ht : look T t = some ty) {fs : List (Nat × TypeId)} (hu : ty.u = .st fs) {b : AV} (hx : ev x = some (.av b)) (hok : segsOk b.segs = true) {off : Nat} {t' : TypeId} (hf : fs[f]? = some (off, t')) {ty' : Ty} (ht' : look T t' = some ty') {v : SV} {p' : Asm} (hr : readAt ty' false b.segs off = some (v, p')) (hp' : p'.holds) (hagg : ∃ cs, b.conc ρ = .agg cs) {q : Asm} :
    Sn P o a w ρ D N M G base { val := v, asm := q } := by
  have hun : UOK P t (.st fs) := by have := (hT t ty ht).und; rw [hu] at this; exact this
  obtain ⟨fields, hd, hfs, pls, hpls⟩ := hun
  rw [hfs, List.getElem?_map, Option.map_eq_some_iff] at hf
  obtain ⟨fl, hfl, hft⟩ := hf
  simp only [Prod.mk.injEq] at hft
  obtain ⟨rfl, rfl⟩ := hft
  obtain ⟨cs, hcs⟩ := hagg
  have hcells := AV.cells ρ hok
  rw [hcs] at hcells
  have hcells' : cs = (segsVals ρ b.segs).toArray := hcells
  refine sn_same hG (s := Instr.field t (a.eval x) f) (by unfold execOp; rw [hop]; rfl) ?_ rfl rfl
  rw [(hev x _ hx).1, conc_av, hcs, hcells']
  have hfl' : fields[f]? = some fl := by simpa using hfl
  simp only [Instr.field, Sem.run_bind, Sem.run_pure, Result.andThen_ok, run_underlying hd, hfl', asAgg]
  exact (readAt_spec (hT _ ty' ht') hr hp').1

end
end Go.Proofs.YtmhmfmnjdbehcaaDoor.Am
