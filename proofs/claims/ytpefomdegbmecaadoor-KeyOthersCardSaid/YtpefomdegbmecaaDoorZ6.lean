/- The abstract machine: a call that the machine runs through itself, as a contract. Conditions: none. -/
import Derived.Test.YtpefomdegbmecaaDoorZ5
import Derived.Test.YtpefomdegbmecaaDoorChecked
import Derived.KernelRfl
set_option linter.unusedSectionVars false
namespace Go.Proofs.YtpefomdegbmecaaDoor.Am
set_option linter.unusedVariables false
set_option linter.unusedSimpArgs false
open Go Go.RowKit

def idsA : List SV → List Nat
  | [] => []
  | x :: l => x.ids ++ idsA l
def reach (G : Nat → Option Blk) : Nat → List Nat → List Nat → Option (List Nat)
  | 0, _, _ => none
  | _ + 1, [], acc => some acc
  | f + 1, id :: l, acc => match memB id acc with
    | true => reach G f l acc
    | false => match G id with
      | some b => reach G f (idsL b.c ++ l) (id :: acc)
      | none => reach G f l (id :: acc)
def SV.allB (p : Seg → Bool) : SV → Bool
  | .av a => a.segs.all p
  | .tup l => l.all fun a => a.segs.all p
def refB (G : Nat → Option Blk) : Seg → Bool
  | .r id _ _ _ => match G id with
    | some b => Nat.ble 1 b.k
    | none => false
  | _ => true
def kindOf (i k : Nat) (mu : List Nat) : Nat := match memB i mu with
  | true => match k with
    | 0 => 0
    | _ => 2
  | false => 2
def hpOf (G : Nat → Option Blk) (f : Nat → Nat) (mu : List Nat) : List Nat → Nat → List (Nat × Blk)
  | [], _ => []
  | id :: l, i => match G id with
    | some b => (i, ⟨kindOf i b.k mu, b.ty, renL f b.c⟩) :: hpOf G f mu l (i + 1)
    | none => hpOf G f mu l (i + 1)
def reachE (hp : List (Nat × Blk)) (k : Nat) : Nat → List Nat → List Nat → Option (List Nat)
  | 0, _, _ => none
  | _ + 1, [], acc => some acc
  | f + 1, id :: l, acc => match Nat.blt id k || memB id acc with
    | true => reachE hp k f l acc
    | false => match look hp id with
      | some b => reachE hp k f (idsL b.c ++ l) (id :: acc)
      | none => none
def expB (k : Nat) (es : List Nat) (A : Nat → Bool) : Seg → Bool
  | .p id _ => memB id es || (Nat.blt id k && A id)
  | .s id _ _ _ => memB id es || (Nat.blt id k && A id)
  | .r id _ _ _ => memB id es
  | .m _ => false
  | _ => true
def muOf (σ : List Nat) : List SV → Nat → List Nat → List Nat
  | [], _, _ => []
  | x :: l, i, mu => match memB i mu, x with
    | true, .av (.one (.p id _)) => idx id σ :: muOf σ l (i + 1) mu
    | true, .av (.one (.s id _ _ _)) => idx id σ :: muOf σ l (i + 1) mu
    | _, _ => muOf σ l (i + 1) mu
def idsM (hp : List (Nat × Blk)) : List Nat → List Nat
  | [] => []
  | i :: l => match look hp i with
    | some b => idsL b.c ++ idsM hp l
    | none => idsM hp l
def ren2 (σ es : List Nat) (base i : Nat) : Nat := match Nat.blt i σ.length with
  | true => match nth σ i with
    | some id => id
    | none => 0
  | false => base + idx i es
def updOf (σ : List Nat) (hp : List (Nat × Blk)) (τ : Nat → Nat) : List Nat → List (Nat × Option Blk)
  | [] => []
  | i :: l => match nth σ i, look hp i with
    | some id, some b => (id, some ⟨0, b.ty, renL τ b.c⟩) :: updOf σ hp τ l
    | _, _ => updOf σ hp τ l
def newOf (hp : List (Nat × Blk)) (τ : Nat → Nat) : List Nat → List Blk
  | [] => []
  | e :: l => match look hp e with
    | some b => ⟨b.k, b.ty, renL τ b.c⟩ :: newOf hp τ l
    | none => newOf hp τ l
def muB (G : Nat → Option Blk) (σ : List Nat) (hp : List (Nat × Blk)) (p : Seg → Bool) (i : Nat) : Bool := match nth σ i, look hp i with
  | some id, some b => match G id with
    | some b0 => Nat.beq b0.k 0 && (Nat.beq b.k 0 && b.c.all p)
    | none => false
  | _, _ => false
def esB (k : Nat) (hp : List (Nat × Blk)) (p : Seg → Bool) (e : Nat) : Bool := match look hp e with
  | some b => Nat.ble k e && (Nat.blt b.k 2 && b.c.all p)
  | none => false
def blkB (G : Nat → Option Blk) (id : Nat) : Bool := match G id with
  | some b => b.c.all (refB G)
  | none => true
def aOf (hp : List (Nat × Blk)) (id : Nat) : Bool := match look hp id with
  | some b => hasA b
  | none => false
def inlOut (G : Nat → Option Blk) (base : Nat) (σ mu : List Nat) (hp0 : List (Nat × Blk)) : Option (SV × St × Asm) → Option Res
  | none => none
  | some (v, st, p) => match reachE st.hp σ.length 100 (v.ids ++ idsM st.hp mu) [] with
    | none => none
    | some es => match v.allB (expB σ.length es (aOf hp0)) && (mu.all (muB G σ st.hp (expB σ.length es (aOf hp0))) && es.all (esB σ.length st.hp (expB σ.length es (aOf hp0)))) with
      | true => some { val := v.ren (ren2 σ es base), new := newOf st.hp (ren2 σ es base) es, upd := updOf σ st.hp (ren2 σ es base) mu, asm := p }
      | false => none
def inl (T : List (Nat × Ty)) (O : List (Nat × Ent)) (H : Nat → Nat → Hint) (LH : List (Nat × Nat)) (fuel : Nat) (fn : Func) (mu : List Nat) : Ent := fun args G base =>
  match fn.body, reach G 100 (idsA args) [] with
  | some c, some σ => match args.all (SV.allB (refB G)) && (σ.all (blkB G) && Nat.ble args.length fn.ntmps) with
    | true => inlOut G base σ (muOf σ args 0 mu) (hpOf G (fun id => idx id σ) (muOf σ args 0 mu) σ 0) (whole T O H LH fuel fn.results.toList [.code c] (start (args.map (SV.ren fun id => idx id σ)) fn.ntmps (hpOf G (fun id => idx id σ) (muOf σ args 0 mu) σ 0) σ.length []))
    | false => none
  | _, _ => none

theorem mem_idsL {id : Nat} : ∀ {l : List Seg}, id ∈ idsL l ↔ ∃ s ∈ l, id ∈ s.ids
  | [] => by simp [idsL]
  | x :: l => by simp [idsL, mem_idsL (l := l)]
theorem mem_idsT {id : Nat} : ∀ {l : List AV}, id ∈ idsT l ↔ ∃ a ∈ l, ∃ s ∈ a.segs, id ∈ s.ids
  | [] => by simp [idsT]
  | x :: l => by simp [idsT, mem_idsT (l := l), mem_idsL]
theorem SV.ids_all {p : Nat → Prop} {s : SV} : (∀ id, id ∈ s.ids → p id) ↔ s.All fun x => ∀ id, id ∈ x.ids → p id := by
  cases s with
  | av a =>
    simp only [SV.ids, mem_idsL, SV.All]
    exact ⟨fun h x hx id hid => h id ⟨x, hx, hid⟩, fun h id ⟨x, hx, hid⟩ => h x hx id hid⟩
  | tup l =>
    simp only [SV.ids, mem_idsT, SV.All]
    exact ⟨fun h a ha x hx id hid => h id ⟨a, ha, x, hx, hid⟩, fun h id ⟨a, ha, x, hx, hid⟩ => h a ha x hx id hid⟩
theorem mem_idsA {id : Nat} : ∀ {l : List SV}, id ∈ idsA l ↔ ∃ a ∈ l, id ∈ a.ids
  | [] => by simp [idsA]
  | x :: l => by simp [idsA, mem_idsA (l := l)]
theorem Seg.in_ids {D : Nat → Prop} {s : Seg} : s.In D ↔ ∀ id, id ∈ s.ids → D id := by
  cases s <;> simp [Seg.In, Seg.ids]
theorem segsIn_ids {D : Nat → Prop} {l : List Seg} : segsIn D l ↔ ∀ id, id ∈ idsL l → D id := by
  simp only [segsIn, Seg.in_ids, mem_idsL]
  exact ⟨fun h id ⟨x, hx, hid⟩ => h x hx id hid, fun h x hx id hid => h id ⟨x, hx, hid⟩⟩
theorem SV.in_all {D : Nat → Prop} {s : SV} : s.In D ↔ s.All fun x => ∀ id, id ∈ x.ids → D id := by
  cases s with
  | av a => simp only [SV.In, AV.In, segsIn, SV.All, Seg.in_ids]
  | tup l => simp only [SV.In, AV.In, segsIn, SV.All, Seg.in_ids]
theorem SV.allB_all {p : Seg → Bool} {s : SV} : s.allB p = true ↔ s.All fun x => p x = true := by
  cases s <;> simp [SV.allB, SV.All, List.all_eq_true]
theorem SV.All.mono {p q : Seg → Prop} (h : ∀ x, p x → q x) {s : SV} (hs : s.All p) : s.All q := by
  revert hs
  cases s with
  | av a => exact fun hs x hx => h x (hs x hx)
  | tup l => exact fun hs a ha x hx => h x (hs a ha x hx)
theorem SV.All.and {p q : Seg → Prop} {s : SV} (hs : s.All p) (ht : s.All q) : s.All fun x => p x ∧ q x := by
  revert hs ht
  cases s with
  | av a => exact fun hs ht x hx => ⟨hs x hx, ht x hx⟩
  | tup l => exact fun hs ht a ha x hx => ⟨hs a ha x hx, ht a ha x hx⟩

theorem reach_spec {G : Nat → Option Blk} {D : Nat → Prop} (hD : ∀ id b, G id = some b → ∀ i ∈ idsL b.c, D i) : ∀ (f : Nat) (todo acc σ : List Nat), reach G f todo acc = some σ → acc.Nodup → (∀ id ∈ acc, ∀ b, G id = some b → ∀ i ∈ idsL b.c, i ∈ acc ∨ i ∈ todo) → (∀ id ∈ acc, D id) → (∀ id ∈ todo, D id) →
    σ.Nodup ∧ (∀ id ∈ acc, id ∈ σ) ∧ (∀ id ∈ todo, id ∈ σ) ∧ (∀ id ∈ σ, D id) ∧ (∀ id ∈ σ, ∀ b, G id = some b → ∀ i ∈ idsL b.c, i ∈ σ)
  | 0, _, _, _, h, _, _, _, _ => by cases h
  | f + 1, [], acc, σ, h, hn, hc, ha, ht => by
    simp only [reach, Option.some.injEq] at h
    subst h
    exact ⟨hn, fun id h => h, fun id h => (by cases h), ha, fun id hid b hb i hi => (hc id hid b hb i hi).resolve_right (by simp)⟩
  | f + 1, id :: l, acc, σ, h, hn, hc, ha, ht => by
    unfold reach at h
    split at h
    · rename_i hm
      have hm := memB_mem.1 hm
      obtain ⟨h1, h2, h3, h4, h5⟩ := reach_spec hD f l acc σ h hn (fun x hx b hb i hi => (hc x hx b hb i hi).elim .inl fun h => (List.mem_cons.1 h).elim (fun e => .inl (e ▸ hm)) .inr) ha (fun x hx => ht x (by simp [hx]))
      exact ⟨h1, h2, fun x hx => (List.mem_cons.1 hx).elim (fun e => h2 x (e ▸ hm)) (h3 x), h4, h5⟩
    · rename_i hm
      have hm : id ∉ acc := fun h => by rw [memB_mem.2 h] at hm; cases hm
      split at h
      · rename_i b hb
        obtain ⟨h1, h2, h3, h4, h5⟩ := reach_spec hD f (idsL b.c ++ l) (id :: acc) σ h (List.nodup_cons.2 ⟨hm, hn⟩) (fun x hx b' hb' i hi => by
          rcases List.mem_cons.1 hx with rfl | hx
          · rw [hb] at hb'; injection hb' with hb'; subst hb'
            exact .inr (List.mem_append_left _ hi)
          · rcases hc x hx b' hb' i hi with h | h
            · exact .inl (List.mem_cons_of_mem _ h)
            · rcases List.mem_cons.1 h with rfl | h
              · exact .inl (by simp)
              · exact .inr (List.mem_append_right _ h)) (fun x hx => (List.mem_cons.1 hx).elim (fun e => e ▸ ht id (by simp)) (ha x)) (fun x hx => (List.mem_append.1 hx).elim (hD id b hb x) fun h => ht x (by simp [h]))
        exact ⟨h1, fun x hx => h2 x (List.mem_cons_of_mem _ hx), fun x hx => (List.mem_cons.1 hx).elim (fun e => h2 x (by simp [e])) fun h => h3 x (List.mem_append_right _ h), h4, h5⟩
      · rename_i hb
        obtain ⟨h1, h2, h3, h4, h5⟩ := reach_spec hD f l (id :: acc) σ h (List.nodup_cons.2 ⟨hm, hn⟩) (fun x hx b' hb' i hi => by
          rcases List.mem_cons.1 hx with rfl | hx
          · rw [hb] at hb'; cases hb'
          · rcases hc x hx b' hb' i hi with h | h
            · exact .inl (List.mem_cons_of_mem _ h)
            · rcases List.mem_cons.1 h with rfl | h
              · exact .inl (by simp)
              · exact .inr h) (fun x hx => (List.mem_cons.1 hx).elim (fun e => e ▸ ht id (by simp)) (ha x)) (fun x hx => ht x (by simp [hx]))
        exact ⟨h1, fun x hx => h2 x (List.mem_cons_of_mem _ hx), fun x hx => (List.mem_cons.1 hx).elim (fun e => h2 x (by simp [e])) (h3 x), h4, h5⟩
theorem reachE_nodup {hp : List (Nat × Blk)} {k : Nat} : ∀ (f : Nat) (todo acc es : List Nat), reachE hp k f todo acc = some es → acc.Nodup → es.Nodup
  | 0, _, _, _, h, _ => by cases h
  | f + 1, [], acc, es, h, hn => by
    simp only [reachE, Option.some.injEq] at h
    subst h; exact hn
  | f + 1, id :: l, acc, es, h, hn => by
    unfold reachE at h
    split at h
    · exact reachE_nodup f l acc es h hn
    · rename_i hm
      split at h
      · refine reachE_nodup f _ _ es h (List.nodup_cons.2 ⟨fun hc => ?_, hn⟩)
        rw [Bool.or_eq_false_iff] at hm
        rw [memB_mem.2 hc] at hm
        cases hm.2
      · cases h
theorem look_hpOf {G : Nat → Option Blk} {f : Nat → Nat} {mu : List Nat} {i : Nat} {b : Blk} : ∀ (l : List Nat) (k : Nat), look (hpOf G f mu l k) i = some b → ∃ j id b0, i = k + j ∧ l[j]? = some id ∧ G id = some b0 ∧ b = ⟨kindOf i b0.k mu, b0.ty, renL f b0.c⟩
  | [], k, h => by cases h
  | id :: l, k, h => by
    unfold hpOf at h
    split at h
    · rename_i b0 hb0
      rw [look_cons] at h
      by_cases hk : k = i
      · rw [if_pos hk] at h
        injection h with h
        subst hk h
        exact ⟨0, id, b0, rfl, rfl, hb0, rfl⟩
      · rw [if_neg hk] at h
        obtain ⟨j, id', b', hj, hl, hG, hb⟩ := look_hpOf l (k + 1) h
        exact ⟨j + 1, id', b', by omega, by simpa using hl, hG, hb⟩
    · obtain ⟨j, id', b', hj, hl, hG, hb⟩ := look_hpOf l (k + 1) h
      exact ⟨j + 1, id', b', by omega, by simpa using hl, hG, hb⟩
theorem kindOf_lt {i k : Nat} {mu : List Nat} (h : kindOf i k mu < 2) : i ∈ mu ∧ k = 0 ∧ kindOf i k mu = 0 := by
  unfold kindOf at *
  split at h
  · rename_i hm
    refine ⟨memB_mem.1 hm, ?_⟩
    cases k with
    | zero => simp
    | succ k => simp at h
  · omega
theorem kindOf_cases (i k : Nat) (mu : List Nat) : (i ∈ mu ∧ k = 0 ∧ kindOf i k mu = 0) ∨ kindOf i k mu = 2 := by
  rcases Nat.lt_or_ge (kindOf i k mu) 2 with h | h
  · exact .inl (kindOf_lt h)
  · right
    unfold kindOf at *
    split at h
    · cases k with
      | zero => simp at h
      | succ k => rfl
    · rfl
/-- A block that is known may be read. -/
theorem BlkOK.ro {ρ : Nat → Loc} {w : World} {id : Nat} {b : Blk} (h : BlkOK ρ w id b) (hc : (segsVals ρ b.c).length ≤ (ρ id).cap ∨ 1 ≤ b.k) : (segsVals ρ b.c).length ≤ (ρ id).cap ∧ (segsVals ρ b.c = [] ∨ ∃ x, (ρ id).a = some x ∧ ∀ j u, (segsVals ρ b.c)[j]? = some u → w.cell? (x.add j) = some u) := by
  have h2 : segsVals ρ b.c = [] ∨ ∃ x, (ρ id).a = some x ∧ ∀ j u, (segsVals ρ b.c)[j]? = some u → w.cell? (x.add j) = some u := by
    cases hs : segsVals ρ b.c with
    | nil => exact .inl rfl
    | cons y l =>
      right
      obtain ⟨x, hx, _⟩ := h.cells (j := 0) (u := y) (by rw [hs]; rfl)
      refine ⟨x, hx, fun j u hj => ?_⟩
      rw [← hs] at hj
      obtain ⟨x', hx', hc'⟩ := h.cells hj
      rw [hx] at hx'
      injection hx' with hx'
      subst hx'
      exact hc'
  refine ⟨?_, h2⟩
  rcases hc with hc | hc
  · exact hc
  · obtain ⟨k, ty, c⟩ := b
    unfold BlkOK at h
    match k, h, hc with
    | 0, _, hc => simp at hc
    | 1, h, _ =>
      rcases h.2 with ⟨_, he⟩ | ⟨g, cap, cur, hv, _, _, hr⟩
      · show (segsVals ρ c).length ≤ (ρ id).cap
        have he' : (segsVals ρ c).length = 0 := he
        omega
      · have hcap : (ρ id).cap = cap := by injection hv
        show (segsVals ρ c).length ≤ (ρ id).cap
        rw [hcap]
        exact hr.1
    | k + 2, h, _ => exact (BlkOK.low (ty := ty) h).1

theorem nth_some {l : List Nat} {i x : Nat} : nth l i = some x ↔ l[i]? = some x := by rw [nth_get?]
section
variable {P : Program} {T : List (Nat × Ty)} {O : List (Nat × Ent)}
variable [GT]

omit [GT] in
theorem muOf_mem {σ : List Nat} {mu : List Nat} {i : Nat} : ∀ {args : List SV} {k : Nat}, i ∈ muOf σ args k mu → ∃ a ∈ args, ∃ id ∈ a.ids, i = idx id σ
  | [], _, h => by cases h
  | x :: l, k, h => by
    unfold muOf at h
    split at h
    · rename_i id off hm
      rcases List.mem_cons.1 h with rfl | h
      · exact ⟨_, List.mem_cons_self, id, by simp [SV.ids, AV.segs, idsL, Seg.ids], rfl⟩
      · obtain ⟨a, ha, r⟩ := muOf_mem h
        exact ⟨a, List.mem_cons_of_mem _ ha, r⟩
    · rename_i id o l' c hm
      rcases List.mem_cons.1 h with rfl | h
      · exact ⟨_, List.mem_cons_self, id, by simp [SV.ids, AV.segs, idsL, Seg.ids], rfl⟩
      · obtain ⟨a, ha, r⟩ := muOf_mem h
        exact ⟨a, List.mem_cons_of_mem _ ha, r⟩
    · obtain ⟨a, ha, r⟩ := muOf_mem h
      exact ⟨a, List.mem_cons_of_mem _ ha, r⟩
omit [GT] in
theorem newOf_spec {hp : List (Nat × Blk)} {τ : Nat → Nat} : ∀ {es : List Nat}, (∀ e ∈ es, ∃ b, look hp e = some b) → (newOf hp τ es).length = es.length ∧ ∀ (j e : Nat) (b : Blk), es[j]? = some e → look hp e = some b → (newOf hp τ es)[j]? = some ⟨b.k, b.ty, renL τ b.c⟩
  | [], _ => ⟨rfl, fun j e b h => by simp at h⟩
  | e :: l, h => by
    obtain ⟨b, hb⟩ := h e (by simp)
    obtain ⟨h1, h2⟩ := newOf_spec (es := l) (τ := τ) fun x hx => h x (by simp [hx])
    unfold newOf
    rw [hb]
    refine ⟨by simp [h1], fun j e' b' hj hb' => ?_⟩
    cases j with
    | zero =>
      simp only [List.getElem?_cons_zero, Option.some.injEq] at hj
      subst hj
      rw [hb] at hb'
      injection hb' with hb'
      subst hb'
      rfl
    | succ j =>
      rw [List.getElem?_cons_succ] at hj ⊢
      exact h2 j e' b' hj hb'
omit [GT] in
theorem updOf_spec {σ : List Nat} {hp : List (Nat × Blk)} {τ : Nat → Nat} (hσn : ∀ i j id : Nat, σ[i]? = some id → σ[j]? = some id → i = j) : ∀ {mu : List Nat},
    (∀ (i id : Nat) (b : Blk), i ∈ mu → σ[i]? = some id → look hp i = some b → look (updOf σ hp τ mu) id = some (some ⟨0, b.ty, renL τ b.c⟩)) ∧ (∀ id : Nat, (∀ i : Nat, i ∈ mu → σ[i]? ≠ some id) → look (updOf σ hp τ mu) id = none) ∧ ((∀ i ∈ mu, ∃ id b, σ[i]? = some id ∧ look hp i = some b) → updOf σ hp τ mu = [] → mu = [])
  | [] => ⟨(fun i id b h => (by cases h)), (fun id _ => rfl), (fun _ _ => rfl)⟩
  | i :: l => by
    obtain ⟨h1, h2, h3⟩ := updOf_spec hσn (mu := l)
    unfold updOf
    split
    · rename_i id0 b0 hid0 hb0
      rw [nth_some] at hid0
      refine ⟨fun i' id b hi hid hb => ?_, fun id hn => ?_, fun _ h => by cases h⟩
      · rw [look_cons]
        by_cases he : id0 = id
        · rw [if_pos he]
          subst he
          have := hσn _ _ _ hid0 hid
          subst this
          rw [hb0] at hb
          injection hb with hb
          subst hb
          rfl
        · rw [if_neg he]
          refine h1 i' id b ((List.mem_cons.1 hi).resolve_left fun e => he ?_) hid hb
          subst e
          rw [hid0] at hid
          injection hid
      · rw [look_cons, if_neg fun e => hn i (by simp) (by rw [← e]; exact hid0)]
        exact h2 id fun i' hi => hn i' (by simp [hi])
    · rename_i hno
      refine ⟨fun i' id b hi hid hb => ?_, fun id hn => h2 id fun i' hi => hn i' (by simp [hi]), fun hall _ => ?_⟩
      · rcases List.mem_cons.1 hi with rfl | hi
        · exact absurd hb (hno id b (nth_some.2 hid))
        · exact h1 i' id b hi hid hb
      · obtain ⟨id, b, hid, hb⟩ := hall i (by simp)
        exact absurd hb (hno id b (nth_some.2 hid))

/-- From a beginning, what is still to do comes to that state. -/
def Reaches (P : Program) (m0 : Nat) (todo : List AI) (s : St) (todo' : List AI) (s' : St) : Prop :=
  ∀ (B : Exit → Act → World → Prop) (N : Nat) (M : List Nat) (w0 : Wd), (∀ id x, w0.lk id = some x → id < m0) → Runs P B N M w0 todo' s' → Runs P B N M w0 todo s
theorem whole_reaches (hT : TOK P T) (hO : OOK P O) (hm : P.follows .mixedOrders = true) {H : Nat → Nat → Hint} {LH : List (Nat × Nat)} {fuel : Nat} {rs : List ResultVar} {todo : List AI} {s : St} {v : SV} {st : St} {p : Asm} (h : whole T O H LH fuel rs todo s = some (v, st, p)) (hp : p.holds) : resVal T st rs = some v ∧ ∃ todo', (todo' = [] ∨ todo' = [.fin]) ∧ ∀ m0, Reaches P m0 todo s todo' st := by
  unfold whole at h
  split at h
  · rename_i o ho
    split at h
    · rename_i ht
      split at h
      · rename_i v' hv
        simp only [Option.some.injEq, Prod.mk.injEq] at h
        obtain ⟨rfl, rfl, rfl⟩ := h
        exact ⟨hv, [], .inl rfl, fun m0 B N M w0 _ hR => arun_sound hT hO hm _ _ _ _ ho hp (by rw [ht]; exact hR)⟩
      · cases h
    · rename_i ht
      split at h
      · rename_i v' hv
        simp only [Option.some.injEq, Prod.mk.injEq] at h
        obtain ⟨rfl, rfl, rfl⟩ := h
        exact ⟨hv, [.fin], .inr rfl, fun m0 B N M w0 _ hR => arun_sound hT hO hm _ _ _ _ ho hp (by rw [ht]; exact hR)⟩
      · cases h
    · cases h
  · cases h

/-- A call whose run comes to a state, to the one who called. -/
theorem inl_calls (hT : TOK P T) {f : FuncId} {fn : Func} (hf : P.funcs[f]? = some fn) {c : Code} (hb : fn.body = some c) {args : List SV} {G : Nat → Option Blk} {base : Nat} {σ mu : List Nat} {v : SV} {st : St} {p : Asm} {res : Res} {mus : List Nat} (hmu : muOf σ args 0 mus = mu) (hreach : reach G 100 (idsA args) [] = some σ) (hchk : (args.all (SV.allB (refB G)) && (σ.all (blkB G) && Nat.ble args.length fn.ntmps)) = true)
    {todo' : List AI} (hfin : todo' = [] ∨ todo' = [.fin]) (hRe : Reaches P σ.length [.code c] (start (args.map (SV.ren fun id => idx id σ)) fn.ntmps (hpOf G (fun id => idx id σ) mu σ 0) σ.length []) todo' st) (hv : resVal T st fn.results.toList = some v)
    (hr : inlOut G base σ mu (hpOf G (fun id => idx id σ) mu σ 0) (some (v, st, p)) = some res) {ρ : Nat → Loc} {D : Nat → Prop} {N : Nat} {M : List Nat} {w : World} (hG : HR ρ D N M G w) (hin : ∀ s ∈ args, s.In D) (hfr : ∀ id, base ≤ id → id < base + res.new.length → ¬ D id) :
    Calls P f (args.map (SV.conc ρ)).toArray w fun e w' => ∃ v, e = .returned v ∧ ∃ ρ', Fits ρ D N M G base res w ρ' v w' := by
  simp only [Bool.and_eq_true, List.all_eq_true] at hchk
  obtain ⟨hrefA, hrefB, hlen⟩ := hchk
  unfold inlOut at hr
  simp only at hr
  split at hr
  · cases hr
  rename_i es hes
  split at hr
  rotate_left
  · cases hr
  rename_i hchk2
  simp only [Bool.and_eq_true, List.all_eq_true] at hchk2
  obtain ⟨hvX, hmX, heX⟩ := hchk2
  simp only [Option.some.injEq] at hr
  subst hr
  -- the names
  have hDcl : ∀ id b, G id = some b → ∀ i ∈ idsL b.c, D i := fun id b hb => segsIn_ids.1 (hG.blk id b hb).2.1
  obtain ⟨hσn, _, hσA, hσD, hσc⟩ := reach_spec hDcl _ _ _ _ hreach List.nodup_nil (by simp) (by simp) (fun id hid => by
    obtain ⟨a, haa, hid⟩ := mem_idsA.1 hid
    exact SV.ids_all.2 (SV.in_all.1 (hin a haa)) id hid)
  have hσget : ∀ i j id : Nat, σ[i]? = some id → σ[j]? = some id → i = j := fun i j id h1 h2 => (List.getElem?_inj (by
    rcases Nat.lt_or_ge i σ.length with h | h
    · exact h
    · rw [List.getElem?_eq_none h] at h1; cases h1) hσn).1 (h1.trans h2.symm)
  -- the places
  obtain ⟨ρc, hρc⟩ : ∃ ρc : Nat → Loc, ρc = fun i => match σ[i]? with
    | some id => match G id with
      | some b => if b.k = 0 then ⟨(ρ id).a, widths b.c⟩ else ρ id
      | none => ρ id
    | none => ⟨none, 0⟩ := ⟨_, rfl⟩
  have hca : ∀ i id, σ[i]? = some id → (ρc i).a = (ρ id).a := fun i id hi => by
    rw [hρc]
    simp only [hi]
    split
    · split <;> rfl
    · rfl
  have hcr : ∀ i id b, σ[i]? = some id → G id = some b → b.k ≠ 0 → ρc i = ρ id := fun i id b hi hb hk => by
    rw [hρc]
    simp only [hi, hb]
    rw [if_neg hk]
  have hlt : ∀ i id : Nat, σ[i]? = some id → i < σ.length := fun i id h => by
    rcases Nat.lt_or_ge i σ.length with h' | h'
    · exact h'
    · rw [List.getElem?_eq_none h'] at h; cases h
  have hSame : ∀ s : Seg, (∀ id, id ∈ s.ids → id ∈ σ) → refB G s = true → Same (fun id => idx id σ) ρ ρc s := fun s h1 h2 => by
    refine ⟨fun id hid => hca _ _ (idx_get (h1 id hid)), fun id o l a he => ?_⟩
    subst he
    unfold refB at h2
    split at h2
    · rename_i heq
      injection heq with e1
      subst e1
      split at h2
      · rename_i b hb
        have := Nat.le_of_ble_eq_true h2
        exact hcr _ _ b (idx_get (h1 _ (by simp [Seg.ids]))) hb (by omega)
      · cases h2
    · rename_i hno
      exact absurd rfl (hno _ _ _ _)
  have hAll : ∀ s ∈ args, s.All fun x => (∀ id, id ∈ x.ids → id ∈ σ) ∧ refB G x = true := fun s hs =>
    SV.All.and (SV.ids_all.1 fun id hid => hσA id (mem_idsA.2 ⟨s, hs, hid⟩)) (SV.allB_all.1 (hrefA s hs))
  have hargs : (args.map (SV.conc ρ)).toArray = ((args.map (SV.ren fun id => idx id σ)).map (SV.conc ρc)).toArray := by
    rw [List.map_map]
    congr 1
    refine List.map_congr_left fun s hs => ?_
    exact (SV.ren_conc ((hAll s hs).mono fun x hx => hSame x hx.1 hx.2)).symm
  have hmuS : ∀ i ∈ mu, ∃ (id : Nat) (b0 b : Blk), σ[i]? = some id ∧ G id = some b0 ∧ b0.k = 0 ∧ look st.hp i = some b ∧ b.k = 0 := fun i hi => by
    have := hmX i hi
    unfold muB at this
    split at this
    · rename_i id b hid hb
      split at this
      · rename_i b0 hb0
        rw [Bool.and_eq_true, Bool.and_eq_true] at this
        exact ⟨id, b0, b, nth_some.1 hid, hb0, Nat.eq_of_beq_eq_true this.1, hb, Nat.eq_of_beq_eq_true this.2.1⟩
      · cases this
    · cases this
  have hG0 : HR ρc (· < σ.length) w.heap.size (mu.filterMap fun i => (ρc i).a.map (·.block)) (look (hpOf G (fun id => idx id σ) mu σ 0)) w := by
    refine ⟨Nat.le_refl _, fun i b hb => ?_, fun i b x hb hx => ?_, fun i b x hb hk hx => ?_, fun i j bi bj x y hi hj hij hk hx hy => ?_, hG.gw.call hG.size fun g hg => by
      obtain ⟨i, hi, hgi⟩ := List.mem_filterMap.1 hg
      obtain ⟨id, b0, b, hid, hb0, hk0, _⟩ := hmuS i hi
      rw [hca i id hid, Option.map_eq_some_iff] at hgi
      obtain ⟨x, hx, rfl⟩ := hgi
      exact hG.own id b0 x hb0 (by omega) hx⟩
    · obtain ⟨j, id, b0, rfl, hid, hb0, rfl⟩ := look_hpOf _ _ hb
      rw [Nat.zero_add] at *
      have hidσ : id ∈ σ := List.mem_of_getElem? hid
      have hcl : ∀ s ∈ b0.c, ∀ i, i ∈ s.ids → i ∈ σ := fun s hs i hi => hσc id hidσ b0 hb0 i (mem_idsL.2 ⟨s, hs, hi⟩)
      have hrf : ∀ s ∈ b0.c, refB G s = true := by
        have := hrefB id hidσ
        unfold blkB at this
        rw [hb0] at this
        exact List.all_eq_true.1 this
      have hv : segsVals ρc (renL (fun id => idx id σ) b0.c) = segsVals ρ b0.c := renL_vals fun s hs => hSame s (hcl s hs) (hrf s hs)
      refine ⟨hlt j id hid, renL_in fun s hs i hi => idx_lt (hcl s hs i hi), ?_⟩
      have hok := (hG.blk id b0 hb0).2.2
      rcases kindOf_cases j b0.k mu with ⟨_, hk0, he⟩ | he
      · rw [he]
        obtain ⟨k, ty, c⟩ := b0
        simp only at hk0
        subst hk0
        obtain ⟨g, hg, hh⟩ := hok
        refine ⟨g, (hca j id hid).trans hg, ?_⟩
        rw [hv]; exact hh
      · rw [he]
        show (segsVals ρc _).length ≤ (ρc j).cap ∧ _
        rw [hv]
        by_cases hk : b0.k = 0
        · have e : ρc j = ⟨(ρ id).a, widths b0.c⟩ := by
            rw [hρc]; simp only [hid, hb0]; rw [if_pos hk]
          have hok' : BlkOK (fun i => if i = id then ⟨(ρ id).a, widths b0.c⟩ else ρ i) w id b0 → True := fun _ => trivial
          refine ⟨by rw [e, segsVals_len]; exact Nat.le_refl _, ?_⟩
          rw [hca j id hid]
          cases hs : segsVals ρ b0.c with
          | nil => exact .inl rfl
          | cons y l =>
            right
            obtain ⟨x, hx, _⟩ := hok.cells (j := 0) (u := y) (by rw [hs]; rfl)
            refine ⟨x, hx, fun j' u hj' => ?_⟩
            rw [← hs] at hj'
            obtain ⟨x', hx', hc'⟩ := hok.cells hj'
            rw [hx] at hx'
            injection hx' with hx'
            subst hx'
            exact hc'
        · rw [hcr j id b0 hid hb0 hk]
          exact hok.ro (.inr (by omega))
    · obtain ⟨j, id, b0, rfl, hid, hb0, rfl⟩ := look_hpOf _ _ hb
      rw [Nat.zero_add] at *
      rw [hca j id hid] at hx
      exact hG.lt id b0 x hb0 hx
    · obtain ⟨j, id, b0, rfl, hid, hb0, rfl⟩ := look_hpOf _ _ hb
      rw [Nat.zero_add] at *
      right
      rw [List.mem_filterMap]
      exact ⟨j, (kindOf_lt hk).1, by rw [hx]; rfl⟩
    · obtain ⟨i', id, b0, rfl, hid, hb0, rfl⟩ := look_hpOf _ _ hi
      obtain ⟨j', id', b1, rfl, hid', hb1, rfl⟩ := look_hpOf _ _ hj
      rw [Nat.zero_add] at *
      rw [hca _ _ hid] at hx
      rw [hca _ _ hid'] at hy
      refine hG.dist id id' b0 b1 x y hb0 hb1 (fun e => hij ?_) ?_ hx hy
      · subst e; rw [hσget _ _ _ hid hid']; omega
      · have := (kindOf_lt hk).2.1
        omega
  rw [hargs]
  refine calls_am hf hb (ρ := ρc) (M := mu.filterMap fun i => (ρc i).a.map (·.block)) (nx := σ.length) (hp := hpOf G (fun id => idx id σ) mu σ 0) (gl := []) rfl (fun s hs => ?_) (by simpa using Nat.le_of_ble_eq_true hlen) hG0 (lk := fun i => if i < σ.length then (ρc i).a else none) (fun x i h => ?_) ?_
  · obtain ⟨s0, hs0, rfl⟩ := List.mem_map.1 hs
    exact SV.ren_in ((hAll s0 hs0).mono fun x hx id hid => idx_lt (hx.1 id hid))
  · rcases h with ⟨_, _, h⟩ | h
    · cases h
    · by_cases hi : i < σ.length
      · simp only [if_pos hi] at h; exact ⟨h, hi⟩
      · simp only [if_neg hi] at h; cases h
  refine hRe _ _ _ _ (fun id x hx => ?_) (runs_end hT hfin hv fun ρ1 a1 w1 hrel => ?_)
  · by_cases hi : id < σ.length
    · exact hi
    · simp only [if_neg hi] at hx; cases hx
  have hHR := hrel.rel.hr
  have hK := hrel.rel.kept
  have hlk : ∀ id x, (if id < σ.length then (ρc id).a else none) = some x → (ρ1 id).a = some x := fun id x hx => (hrel.rel.globals x id (.inr hx)).1
  refine ⟨_, rfl, ?_⟩
  have hlk' : ∀ (i id : Nat) (x : Addr), σ[i]? = some id → (ρ id).a = some x → (ρ1 i).a = some x := fun i id x hi hx => by
    refine hlk i x ?_
    show (if i < σ.length then (ρc i).a else none) = some x
    rw [if_pos (hlt i id hi), hca i id hi]
    exact hx
  have hesS : ∀ e ∈ es, σ.length ≤ e ∧ ∃ b, look st.hp e = some b ∧ b.k < 2 := fun e he => by
    have := heX e he
    unfold esB at this
    split at this
    · rename_i b hb
      rw [Bool.and_eq_true, Bool.and_eq_true] at this
      exact ⟨Nat.le_of_ble_eq_true this.1, b, hb, Nat.le_of_ble_eq_true this.2.1⟩
    · cases this
  have hesn := reachE_nodup _ _ _ _ hes List.nodup_nil
  obtain ⟨hn1, hn2⟩ := newOf_spec (hp := st.hp) (τ := ren2 σ es base) (es := es) fun e he => (hesS e he).2.imp fun _ h => h.1
  obtain ⟨hu1, hu2, hu3⟩ := updOf_spec (hp := st.hp) (τ := ren2 σ es base) hσget (mu := mu)
  refine inl_fits (G1 := look st.hp) (nx := st.nx) (σ := σ) (es := es) (mu := mu) hG (fun i id hi => hσD id (List.mem_of_getElem? hi)) hσget (fun id h1 h2 => hfr id h1 (by rw [hn1]; exact h2)) hHR hK hlk' (fun g hg => ?_) hmuS hesS (fun i j e h1 h2 => ?_) (τ := ren2 σ es base) (fun i id hi => ?_) (fun j e he => ?_) rfl hn1 hn2 hu1 hu2 (hu3 fun i hi => ?_) (fun s => expB σ.length es (aOf (hpOf G (fun id => idx id σ) mu σ 0)) s = true) (fun s hs => ?_) (SV.allB_all.1 hvX) (fun e he b hb s hs => ?_) (fun i hi b hb s hs => ?_)
  · obtain ⟨i, hi, hgi⟩ := List.mem_filterMap.1 hg
    obtain ⟨id, b0, b, hid, _⟩ := hmuS i hi
    rw [hca i id hid, Option.map_eq_some_iff] at hgi
    obtain ⟨x, hx, hxg⟩ := hgi
    exact ⟨i, id, x, hi, hid, hx, hxg⟩
  · exact (List.getElem?_inj (by
      rcases Nat.lt_or_ge i es.length with h | h
      · exact h
      · rw [List.getElem?_eq_none h] at h1; cases h1) hesn).1 (h1.trans h2.symm)
  · unfold ren2
    have : Nat.blt i σ.length = true := Nat.ble_eq_true_of_le (hlt i id hi)
    rw [this]
    simp only [nth_some.2 hi]
  · unfold ren2
    have he' := List.mem_of_getElem? he
    have : Nat.blt e σ.length = false := by
      have := (hesS e he').1
      rcases hh : Nat.blt e σ.length with _ | _
      · rfl
      · have : e + 1 ≤ σ.length := Nat.le_of_ble_eq_true hh
        omega
    rw [this]
    simp only
    have h1 := idx_get he'
    rw [(List.getElem?_inj (idx_lt he') hesn).1 (h1.trans he.symm)]
  · obtain ⟨id, b0, b, h1, _, _, h2, _⟩ := hmuS i hi
    exact ⟨id, b, h1, h2⟩
  · have key : ∀ id, (memB id es || (Nat.blt id σ.length && aOf (hpOf G (fun id => idx id σ) mu σ 0) id)) = true → id ∈ es ∨ ∃ (i : Nat) (x : Addr), σ[id]? = some i ∧ (ρ i).a = some x := fun id h => by
      rw [Bool.or_eq_true, Bool.and_eq_true] at h
      rcases h with h | ⟨_, h⟩
      · exact .inl (memB_mem.1 h)
      · right
        unfold aOf at h
        split at h
        · rename_i b hb
          obtain ⟨x, hx⟩ := (hG0.blk id b hb).2.2.hasA h
          obtain ⟨j, id', b0, rfl, hid, _⟩ := look_hpOf _ _ hb
          rw [Nat.zero_add] at *
          exact ⟨id', x, hid, by rw [← hca j id' hid]; exact hx⟩
        · cases h
    cases s with
    | v | num | arr | ap | vs => exact ⟨fun id hid => by simp [Seg.ids] at hid, fun _ _ _ _ h => by cases h⟩
    | p id off => exact ⟨fun i hi => by simp [Seg.ids] at hi; subst hi; exact key _ hs, fun _ _ _ _ h => by cases h⟩
    | s id off len cap => exact ⟨fun i hi => by simp [Seg.ids] at hi; subst hi; exact key _ hs, fun _ _ _ _ h => by cases h⟩
    | r id off len ad => exact ⟨fun i hi => by simp [Seg.ids] at hi; subst hi; exact .inl (memB_mem.1 hs), fun _ _ _ _ h => by injection h with h; subst h; exact memB_mem.1 hs⟩
    | m id => cases hs
  · have := heX e he
    unfold esB at this
    rw [hb] at this
    simp only [Bool.and_eq_true, List.all_eq_true] at this
    exact this.2.2 s hs
  · have := hmX i hi
    unfold muB at this
    rw [hb] at this
    split at this
    · rename_i id b' hid hb'
      injection hb' with hb'
      subst hb'
      split at this
      · simp only [Bool.and_eq_true, List.all_eq_true] at this
        exact this.2.2 s hs
      · cases this
    · cases this
/-- A call that is run through is a contract. -/
theorem inl_ok (hT : TOK P T) (hO : OOK P O) (hm : P.follows .mixedOrders = true) {H : Nat → Nat → Hint} {LH : List (Nat × Nat)} {fuel : Nat} {f : FuncId} {fn : Func} (hf : P.funcs[f]? = some fn) (hname : (fn.name == "runtime.NumGoroutine") = false) (hbs : fn.body.isSome = true) (mus : List Nat) : EntOK P f (inl T O H LH fuel fn mus) := by
  refine ⟨⟨fn, hf, hname, hbs⟩, fun args G base res hr ha ρ D N M w hG hin hfr => ?_⟩
  unfold inl at hr
  split at hr
  rotate_left
  · cases hr
  rename_i c σ hb hreach
  split at hr
  rotate_left
  · cases hr
  rename_i hchk
  cases hw : whole T O H LH fuel fn.results.toList [.code c] (start (args.map (SV.ren fun id => idx id σ)) fn.ntmps (hpOf G (fun id => idx id σ) (muOf σ args 0 mus) σ 0) σ.length []) with
  | none =>
    rw [hw] at hr
    cases hr
  | some o =>
    obtain ⟨v, st, p⟩ := o
    rw [hw] at hr
    have hp : p = res.asm := by
      unfold inlOut at hr
      simp only at hr
      split at hr
      · cases hr
      · split at hr
        · simp only [Option.some.injEq] at hr
          rw [← hr]
        · cases hr
    obtain ⟨hv, todo', hfin, hRe⟩ := whole_reaches hT hO hm hw (hp ▸ ha)
    exact inl_calls hT hf hb rfl hreach hchk hfin (hRe _) hv hr hG hin hfr
end
end Go.Proofs.YtpefomdegbmecaaDoor.Am
/- The machine's table of types, printed out of the seat's dump by a program (types.py). Conditions: none. -/
namespace Go.Proofs.YtpefomdegbmecaaDoor.Am
open Go Go.RowKit
theorem ty2 : TyOK Go.Proofs.Tryd.prog 2 ⟨1, 8, .one (.v (.int .i64 0)), .int .i64, none, false⟩ := by
  refine ⟨info_of (by kernel_rfl : (Go.Proofs.Tryd.prog.info? 2).map (fun i => (i.size, i.bytes, i.zero)) = some (1, 8, some (AV.conc noLoc (.one (.v (.int .i64 0)))))), ?_, by kernel_rfl, by kernel_rfl, (by kernel_rfl : Go.Proofs.Tryd.prog.underlying 2 = some (.int .i64)), fun k hk => by simp at hk, fun h => by cases h⟩
  exact segsB_in (f := fun _ => false) (fun _ h => by cases h) (by kernel_rfl)
theorem ty3 : TyOK Go.Proofs.Tryd.prog 3 ⟨1, 8, .one (.v (.int .i64 0)), .int .i64, none, false⟩ := by
  refine ⟨info_of (by kernel_rfl : (Go.Proofs.Tryd.prog.info? 3).map (fun i => (i.size, i.bytes, i.zero)) = some (1, 8, some (AV.conc noLoc (.one (.v (.int .i64 0)))))), ?_, by kernel_rfl, by kernel_rfl, (by kernel_rfl : Go.Proofs.Tryd.prog.underlying 3 = some (.int .i64)), fun k hk => by simp at hk, fun h => by cases h⟩
  exact segsB_in (f := fun _ => false) (fun _ h => by cases h) (by kernel_rfl)
theorem ty4 : TyOK Go.Proofs.Tryd.prog 4 ⟨1, 1, .one (.v (.bool false)), .bool, none, false⟩ := by
  refine ⟨info_of (by kernel_rfl : (Go.Proofs.Tryd.prog.info? 4).map (fun i => (i.size, i.bytes, i.zero)) = some (1, 1, some (AV.conc noLoc (.one (.v (.bool false)))))), ?_, by kernel_rfl, by kernel_rfl, (by kernel_rfl : Go.Proofs.Tryd.prog.underlying 4 = some (.bool)), fun k hk => by simp at hk, fun h => by cases h⟩
  exact segsB_in (f := fun _ => false) (fun _ h => by cases h) (by kernel_rfl)
theorem ty5 : TyOK Go.Proofs.Tryd.prog 5 ⟨1, 1, .one (.v (.int .u8 0)), .int .u8, none, false⟩ := by
  refine ⟨info_of (by kernel_rfl : (Go.Proofs.Tryd.prog.info? 5).map (fun i => (i.size, i.bytes, i.zero)) = some (1, 1, some (AV.conc noLoc (.one (.v (.int .u8 0)))))), ?_, by kernel_rfl, by kernel_rfl, (by kernel_rfl : Go.Proofs.Tryd.prog.underlying 5 = some (.int .u8)), fun k hk => by simp at hk, fun h => by cases h⟩
  exact segsB_in (f := fun _ => false) (fun _ h => by cases h) (by kernel_rfl)
theorem ty9 : TyOK Go.Proofs.Tryd.prog 9 ⟨1, 16, .one (.v (.string .empty)), .str, none, false⟩ := by
  refine ⟨info_of (by kernel_rfl : (Go.Proofs.Tryd.prog.info? 9).map (fun i => (i.size, i.bytes, i.zero)) = some (1, 16, some (AV.conc noLoc (.one (.v (.string .empty)))))), ?_, by kernel_rfl, by kernel_rfl, (by kernel_rfl : Go.Proofs.Tryd.prog.underlying 9 = some (.string)), fun k hk => by simp at hk, fun h => by cases h⟩
  exact segsB_in (f := fun _ => false) (fun _ h => by cases h) (by kernel_rfl)
theorem ty12 : TyOK Go.Proofs.Tryd.prog 12 ⟨1, 8, .one (.v (.int .u64 0)), .int .u64, none, false⟩ := by
  refine ⟨info_of (by kernel_rfl : (Go.Proofs.Tryd.prog.info? 12).map (fun i => (i.size, i.bytes, i.zero)) = some (1, 8, some (AV.conc noLoc (.one (.v (.int .u64 0)))))), ?_, by kernel_rfl, by kernel_rfl, (by kernel_rfl : Go.Proofs.Tryd.prog.underlying 12 = some (.int .u64)), fun k hk => by simp at hk, fun h => by cases h⟩
  exact segsB_in (f := fun _ => false) (fun _ h => by cases h) (by kernel_rfl)
theorem ty13 : TyOK Go.Proofs.Tryd.prog 13 ⟨2, 24, .agg [.v (.string .empty), .v (.int .u64 0)], .st [(0, 9), (1, 12)], none, false⟩ := by
  refine ⟨info_of (by kernel_rfl : (Go.Proofs.Tryd.prog.info? 13).map (fun i => (i.size, i.bytes, i.zero)) = some (2, 24, some (AV.conc noLoc (.agg [.v (.string .empty), .v (.int .u64 0)])))), ?_, by kernel_rfl, by kernel_rfl, st_of (by kernel_rfl : stView Go.Proofs.Tryd.prog 13 = some ([(0, 9), (1, 12)], some [(0, 1), (1, 1)])), fun k hk => by simp at hk, fun h => by cases h⟩
  exact segsB_in (f := fun _ => false) (fun _ h => by cases h) (by kernel_rfl)
theorem ty21 : TyOK Go.Proofs.Tryd.prog 21 ⟨1, 4, .one (.v (.int .i32 0)), .int .i32, none, false⟩ := by
  refine ⟨info_of (by kernel_rfl : (Go.Proofs.Tryd.prog.info? 21).map (fun i => (i.size, i.bytes, i.zero)) = some (1, 4, some (AV.conc noLoc (.one (.v (.int .i32 0)))))), ?_, by kernel_rfl, by kernel_rfl, (by kernel_rfl : Go.Proofs.Tryd.prog.underlying 21 = some (.int .i32)), fun k hk => by simp at hk, fun h => by cases h⟩
  exact segsB_in (f := fun _ => false) (fun _ h => by cases h) (by kernel_rfl)
theorem ty22 : TyOK Go.Proofs.Tryd.prog 22 ⟨1, 8, .one (.v (.int .i64 0)), .int .i64, none, false⟩ := by
  refine ⟨info_of (by kernel_rfl : (Go.Proofs.Tryd.prog.info? 22).map (fun i => (i.size, i.bytes, i.zero)) = some (1, 8, some (AV.conc noLoc (.one (.v (.int .i64 0)))))), ?_, by kernel_rfl, by kernel_rfl, (by kernel_rfl : Go.Proofs.Tryd.prog.underlying 22 = some (.int .i64)), fun k hk => by simp at hk, fun h => by cases h⟩
  exact segsB_in (f := fun _ => false) (fun _ h => by cases h) (by kernel_rfl)
theorem ty23 : TyOK Go.Proofs.Tryd.prog 23 ⟨1, 8, .one (.v (.int .i64 0)), .int .i64, none, false⟩ := by
  refine ⟨info_of (by kernel_rfl : (Go.Proofs.Tryd.prog.info? 23).map (fun i => (i.size, i.bytes, i.zero)) = some (1, 8, some (AV.conc noLoc (.one (.v (.int .i64 0)))))), ?_, by kernel_rfl, by kernel_rfl, (by kernel_rfl : Go.Proofs.Tryd.prog.underlying 23 = some (.int .i64)), fun k hk => by simp at hk, fun h => by cases h⟩
  exact segsB_in (f := fun _ => false) (fun _ h => by cases h) (by kernel_rfl)
theorem ty24 : TyOK Go.Proofs.Tryd.prog 24 ⟨1, 24, .one (.v (.slice none 0 0)), .sl 5, none, false⟩ := by
  refine ⟨info_of (by kernel_rfl : (Go.Proofs.Tryd.prog.info? 24).map (fun i => (i.size, i.bytes, i.zero)) = some (1, 24, some (AV.conc noLoc (.one (.v (.slice none 0 0)))))), ?_, by kernel_rfl, by kernel_rfl, (by kernel_rfl : Go.Proofs.Tryd.prog.underlying 24 = some (.slice 5)), fun k hk => by simp at hk, fun h => by cases h⟩
  exact segsB_in (f := fun _ => false) (fun _ h => by cases h) (by kernel_rfl)
theorem ty25 : TyOK Go.Proofs.Tryd.prog 25 ⟨3, 40, .agg [.v (.int .i64 0), .v (.int .i64 0), .v (.slice none 0 0)], .st [(0, 22), (1, 23), (2, 24)], none, false⟩ := by
  refine ⟨info_of (by kernel_rfl : (Go.Proofs.Tryd.prog.info? 25).map (fun i => (i.size, i.bytes, i.zero)) = some (3, 40, some (AV.conc noLoc (.agg [.v (.int .i64 0), .v (.int .i64 0), .v (.slice none 0 0)])))), ?_, by kernel_rfl, by kernel_rfl, st_of (by kernel_rfl : stView Go.Proofs.Tryd.prog 25 = some ([(0, 22), (1, 23), (2, 24)], some [(0, 1), (1, 1), (2, 1)])), fun k hk => by simp at hk, fun h => by cases h⟩
  exact segsB_in (f := fun _ => false) (fun _ h => by cases h) (by kernel_rfl)
theorem ty26 : TyOK Go.Proofs.Tryd.prog 26 ⟨3, 40, .agg [.v (.int .i64 0), .v (.int .i64 0), .v (.slice none 0 0)], .st [(0, 22), (1, 23), (2, 24)], none, false⟩ := by
  refine ⟨info_of (by kernel_rfl : (Go.Proofs.Tryd.prog.info? 26).map (fun i => (i.size, i.bytes, i.zero)) = some (3, 40, some (AV.conc noLoc (.agg [.v (.int .i64 0), .v (.int .i64 0), .v (.slice none 0 0)])))), ?_, by kernel_rfl, by kernel_rfl, st_of (by kernel_rfl : stView Go.Proofs.Tryd.prog 26 = some ([(0, 22), (1, 23), (2, 24)], some [(0, 1), (1, 1), (2, 1)])), fun k hk => by simp at hk, fun h => by cases h⟩
  exact segsB_in (f := fun _ => false) (fun _ h => by cases h) (by kernel_rfl)
theorem ty28 : TyOK Go.Proofs.Tryd.prog 28 ⟨2, 16, .agg [.v (.int .i64 0), .v (.int .i64 0)], .st [(0, 22), (1, 23)], none, true⟩ := by
  refine ⟨info_of (by kernel_rfl : (Go.Proofs.Tryd.prog.info? 28).map (fun i => (i.size, i.bytes, i.zero)) = some (2, 16, some (AV.conc noLoc (.agg [.v (.int .i64 0), .v (.int .i64 0)])))), ?_, by kernel_rfl, by kernel_rfl, st_of (by kernel_rfl : stView Go.Proofs.Tryd.prog 28 = some ([(0, 22), (1, 23)], some [(0, 1), (1, 1)])), fun k hk => by simp at hk, fun _ => ⟨by kernel_rfl, by kernel_rfl, by kernel_rfl⟩⟩
  exact segsB_in (f := fun _ => false) (fun _ h => by cases h) (by kernel_rfl)
theorem ty29 : TyOK Go.Proofs.Tryd.prog 29 ⟨2, 16, .agg [.v (.int .i64 0), .v (.int .i64 0)], .st [(0, 22), (1, 23)], none, true⟩ := by
  refine ⟨info_of (by kernel_rfl : (Go.Proofs.Tryd.prog.info? 29).map (fun i => (i.size, i.bytes, i.zero)) = some (2, 16, some (AV.conc noLoc (.agg [.v (.int .i64 0), .v (.int .i64 0)])))), ?_, by kernel_rfl, by kernel_rfl, st_of (by kernel_rfl : stView Go.Proofs.Tryd.prog 29 = some ([(0, 22), (1, 23)], some [(0, 1), (1, 1)])), fun k hk => by simp at hk, fun _ => ⟨by kernel_rfl, by kernel_rfl, by kernel_rfl⟩⟩
  exact segsB_in (f := fun _ => false) (fun _ h => by cases h) (by kernel_rfl)
theorem ty30 : TyOK Go.Proofs.Tryd.prog 30 ⟨3, 32, .agg [.v (.int .i64 0), .v (.int .i64 0), .v (.string .empty)], .st [(0, 29), (2, 9)], none, false⟩ := by
  refine ⟨info_of (by kernel_rfl : (Go.Proofs.Tryd.prog.info? 30).map (fun i => (i.size, i.bytes, i.zero)) = some (3, 32, some (AV.conc noLoc (.agg [.v (.int .i64 0), .v (.int .i64 0), .v (.string .empty)])))), ?_, by kernel_rfl, by kernel_rfl, st_of (by kernel_rfl : stView Go.Proofs.Tryd.prog 30 = some ([(0, 29), (2, 9)], some [(0, 2), (2, 1)])), fun k hk => by simp at hk, fun h => by cases h⟩
  exact segsB_in (f := fun _ => false) (fun _ h => by cases h) (by kernel_rfl)
theorem ty31 : TyOK Go.Proofs.Tryd.prog 31 ⟨3, 32, .agg [.v (.int .i64 0), .v (.int .i64 0), .v (.string .empty)], .st [(0, 29), (2, 9)], none, false⟩ := by
  refine ⟨info_of (by kernel_rfl : (Go.Proofs.Tryd.prog.info? 31).map (fun i => (i.size, i.bytes, i.zero)) = some (3, 32, some (AV.conc noLoc (.agg [.v (.int .i64 0), .v (.int .i64 0), .v (.string .empty)])))), ?_, by kernel_rfl, by kernel_rfl, st_of (by kernel_rfl : stView Go.Proofs.Tryd.prog 31 = some ([(0, 29), (2, 9)], some [(0, 2), (2, 1)])), fun k hk => by simp at hk, fun h => by cases h⟩
  exact segsB_in (f := fun _ => false) (fun _ h => by cases h) (by kernel_rfl)
theorem ty32 : TyOK Go.Proofs.Tryd.prog 32 ⟨1, 8, .one (.v (.int .i64 0)), .int .i64, none, false⟩ := by
  refine ⟨info_of (by kernel_rfl : (Go.Proofs.Tryd.prog.info? 32).map (fun i => (i.size, i.bytes, i.zero)) = some (1, 8, some (AV.conc noLoc (.one (.v (.int .i64 0)))))), ?_, by kernel_rfl, by kernel_rfl, (by kernel_rfl : Go.Proofs.Tryd.prog.underlying 32 = some (.int .i64)), fun k hk => by simp at hk, fun h => by cases h⟩
  exact segsB_in (f := fun _ => false) (fun _ h => by cases h) (by kernel_rfl)
theorem ty38 : TyOK Go.Proofs.Tryd.prog 38 ⟨32, 32, .one (.arr .u8 (List.replicate 32 0)), .arr 32 5, some .u8, false⟩ := by
  refine ⟨info_of (by kernel_rfl : (Go.Proofs.Tryd.prog.info? 38).map (fun i => (i.size, i.bytes, i.zero)) = some (32, 32, some (AV.conc noLoc (.one (.arr .u8 (List.replicate 32 0)))))), ?_, by kernel_rfl, by kernel_rfl, (by kernel_rfl : Go.Proofs.Tryd.prog.underlying 38 = some (.array 32 5)), fun k hk => by simp at hk; subst hk; exact ⟨by kernel_rfl, 32, 5, _, rfl, by kernel_rfl, by kernel_rfl, (info_some (by kernel_rfl : (Go.Proofs.Tryd.prog.info? 5).map (fun i => i.size) = some 1)).choose_spec⟩, fun h => by cases h⟩
  exact segsB_in (f := fun _ => false) (fun _ h => by cases h) (by kernel_rfl)
theorem ty43 : TyOK Go.Proofs.Tryd.prog 43 ⟨1, 24, .one (.v (.slice none 0 0)), .sl 23, none, false⟩ := by
  refine ⟨info_of (by kernel_rfl : (Go.Proofs.Tryd.prog.info? 43).map (fun i => (i.size, i.bytes, i.zero)) = some (1, 24, some (AV.conc noLoc (.one (.v (.slice none 0 0)))))), ?_, by kernel_rfl, by kernel_rfl, (by kernel_rfl : Go.Proofs.Tryd.prog.underlying 43 = some (.slice 23)), fun k hk => by simp at hk, fun h => by cases h⟩
  exact segsB_in (f := fun _ => false) (fun _ h => by cases h) (by kernel_rfl)
theorem ty52 : TyOK Go.Proofs.Tryd.prog 52 ⟨1, 8, .one (.v (.map none)), .mp 29 3, none, false⟩ := by
  refine ⟨info_of (by kernel_rfl : (Go.Proofs.Tryd.prog.info? 52).map (fun i => (i.size, i.bytes, i.zero)) = some (1, 8, some (AV.conc noLoc (.one (.v (.map none)))))), ?_, by kernel_rfl, by kernel_rfl, (by kernel_rfl : Go.Proofs.Tryd.prog.underlying 52 = some (.map 29 3)), fun k hk => by simp at hk, fun h => by cases h⟩
  exact segsB_in (f := fun _ => false) (fun _ h => by cases h) (by kernel_rfl)
theorem ty58 : TyOK Go.Proofs.Tryd.prog 58 ⟨1, 8, .one (.v (.int .u64 0)), .int .u64, none, false⟩ := by
  refine ⟨info_of (by kernel_rfl : (Go.Proofs.Tryd.prog.info? 58).map (fun i => (i.size, i.bytes, i.zero)) = some (1, 8, some (AV.conc noLoc (.one (.v (.int .u64 0)))))), ?_, by kernel_rfl, by kernel_rfl, (by kernel_rfl : Go.Proofs.Tryd.prog.underlying 58 = some (.int .u64)), fun k hk => by simp at hk, fun h => by cases h⟩
  exact segsB_in (f := fun _ => false) (fun _ h => by cases h) (by kernel_rfl)
theorem ty59 : TyOK Go.Proofs.Tryd.prog 59 ⟨4, 32, .one (.num 0), .arr 4 58, some .u64, false⟩ := by
  refine ⟨info_of (by kernel_rfl : (Go.Proofs.Tryd.prog.info? 59).map (fun i => (i.size, i.bytes, i.zero)) = some (4, 32, some (AV.conc noLoc (.one (.num 0))))), ?_, by kernel_rfl, by kernel_rfl, (by kernel_rfl : Go.Proofs.Tryd.prog.underlying 59 = some (.array 4 58)), fun k hk => by simp at hk; subst hk; exact ⟨by kernel_rfl, 4, 58, _, rfl, by kernel_rfl, by kernel_rfl, (info_some (by kernel_rfl : (Go.Proofs.Tryd.prog.info? 58).map (fun i => i.size) = some 1)).choose_spec⟩, fun h => by cases h⟩
  exact segsB_in (f := fun _ => false) (fun _ h => by cases h) (by kernel_rfl)
theorem ty60 : TyOK Go.Proofs.Tryd.prog 60 ⟨4, 32, .one (.num 0), .arr 4 58, some .u64, false⟩ := by
  refine ⟨info_of (by kernel_rfl : (Go.Proofs.Tryd.prog.info? 60).map (fun i => (i.size, i.bytes, i.zero)) = some (4, 32, some (AV.conc noLoc (.one (.num 0))))), ?_, by kernel_rfl, by kernel_rfl, (by kernel_rfl : Go.Proofs.Tryd.prog.underlying 60 = some (.array 4 58)), fun k hk => by simp at hk; subst hk; exact ⟨by kernel_rfl, 4, 58, _, rfl, by kernel_rfl, by kernel_rfl, (info_some (by kernel_rfl : (Go.Proofs.Tryd.prog.info? 58).map (fun i => i.size) = some 1)).choose_spec⟩, fun h => by cases h⟩
  exact segsB_in (f := fun _ => false) (fun _ h => by cases h) (by kernel_rfl)
theorem ty61 : TyOK Go.Proofs.Tryd.prog 61 ⟨5, 56, .agg [.num 0, .v (.slice none 0 0)], .st [(0, 60), (4, 24)], none, false⟩ := by
  refine ⟨info_of (by kernel_rfl : (Go.Proofs.Tryd.prog.info? 61).map (fun i => (i.size, i.bytes, i.zero)) = some (5, 56, some (AV.conc noLoc (.agg [.num 0, .v (.slice none 0 0)])))), ?_, by kernel_rfl, by kernel_rfl, st_of (by kernel_rfl : stView Go.Proofs.Tryd.prog 61 = some ([(0, 60), (4, 24)], some [(0, 4), (4, 1)])), fun k hk => by simp at hk, fun h => by cases h⟩
  exact segsB_in (f := fun _ => false) (fun _ h => by cases h) (by kernel_rfl)
theorem ty62 : TyOK Go.Proofs.Tryd.prog 62 ⟨5, 56, .agg [.num 0, .v (.slice none 0 0)], .st [(0, 60), (4, 24)], none, false⟩ := by
  refine ⟨info_of (by kernel_rfl : (Go.Proofs.Tryd.prog.info? 62).map (fun i => (i.size, i.bytes, i.zero)) = some (5, 56, some (AV.conc noLoc (.agg [.num 0, .v (.slice none 0 0)])))), ?_, by kernel_rfl, by kernel_rfl, st_of (by kernel_rfl : stView Go.Proofs.Tryd.prog 62 = some ([(0, 60), (4, 24)], some [(0, 4), (4, 1)])), fun k hk => by simp at hk, fun h => by cases h⟩
  exact segsB_in (f := fun _ => false) (fun _ h => by cases h) (by kernel_rfl)
theorem ty65 : TyOK Go.Proofs.Tryd.prog 65 ⟨8, 64, .agg [.num 0, .num 0], .st [(0, 60), (4, 60)], none, true⟩ := by
  refine ⟨info_of (by kernel_rfl : (Go.Proofs.Tryd.prog.info? 65).map (fun i => (i.size, i.bytes, i.zero)) = some (8, 64, some (AV.conc noLoc (.agg [.num 0, .num 0])))), ?_, by kernel_rfl, by kernel_rfl, st_of (by kernel_rfl : stView Go.Proofs.Tryd.prog 65 = some ([(0, 60), (4, 60)], some [(0, 4), (4, 4)])), fun k hk => by simp at hk, fun _ => ⟨by kernel_rfl, by kernel_rfl, by kernel_rfl⟩⟩
  exact segsB_in (f := fun _ => false) (fun _ h => by cases h) (by kernel_rfl)
theorem ty66 : TyOK Go.Proofs.Tryd.prog 66 ⟨8, 64, .agg [.num 0, .num 0], .st [(0, 60), (4, 60)], none, true⟩ := by
  refine ⟨info_of (by kernel_rfl : (Go.Proofs.Tryd.prog.info? 66).map (fun i => (i.size, i.bytes, i.zero)) = some (8, 64, some (AV.conc noLoc (.agg [.num 0, .num 0])))), ?_, by kernel_rfl, by kernel_rfl, st_of (by kernel_rfl : stView Go.Proofs.Tryd.prog 66 = some ([(0, 60), (4, 60)], some [(0, 4), (4, 4)])), fun k hk => by simp at hk, fun _ => ⟨by kernel_rfl, by kernel_rfl, by kernel_rfl⟩⟩
  exact segsB_in (f := fun _ => false) (fun _ h => by cases h) (by kernel_rfl)
theorem ty70 : TyOK Go.Proofs.Tryd.prog 70 ⟨1, 24, .one (.v (.slice none 0 0)), .sl 24, none, false⟩ := by
  refine ⟨info_of (by kernel_rfl : (Go.Proofs.Tryd.prog.info? 70).map (fun i => (i.size, i.bytes, i.zero)) = some (1, 24, some (AV.conc noLoc (.one (.v (.slice none 0 0)))))), ?_, by kernel_rfl, by kernel_rfl, (by kernel_rfl : Go.Proofs.Tryd.prog.underlying 70 = some (.slice 24)), fun k hk => by simp at hk, fun h => by cases h⟩
  exact segsB_in (f := fun _ => false) (fun _ h => by cases h) (by kernel_rfl)
theorem ty72 : TyOK Go.Proofs.Tryd.prog 72 ⟨64, 64, .one (.arr .u8 (List.replicate 64 0)), .arr 64 5, some .u8, false⟩ := by
  refine ⟨info_of (by kernel_rfl : (Go.Proofs.Tryd.prog.info? 72).map (fun i => (i.size, i.bytes, i.zero)) = some (64, 64, some (AV.conc noLoc (.one (.arr .u8 (List.replicate 64 0)))))), ?_, by kernel_rfl, by kernel_rfl, (by kernel_rfl : Go.Proofs.Tryd.prog.underlying 72 = some (.array 64 5)), fun k hk => by simp at hk; subst hk; exact ⟨by kernel_rfl, 64, 5, _, rfl, by kernel_rfl, by kernel_rfl, (info_some (by kernel_rfl : (Go.Proofs.Tryd.prog.info? 5).map (fun i => i.size) = some 1)).choose_spec⟩, fun h => by cases h⟩
  exact segsB_in (f := fun _ => false) (fun _ h => by cases h) (by kernel_rfl)
theorem ty78 : TyOK Go.Proofs.Tryd.prog 78 ⟨1, 8, .one (.v (.pointer none)), .ptr 98, none, false⟩ := by
  refine ⟨info_of (by kernel_rfl : (Go.Proofs.Tryd.prog.info? 78).map (fun i => (i.size, i.bytes, i.zero)) = some (1, 8, some (AV.conc noLoc (.one (.v (.pointer none)))))), ?_, by kernel_rfl, by kernel_rfl, (by kernel_rfl : Go.Proofs.Tryd.prog.underlying 78 = some (.pointer 98)), fun k hk => by simp at hk, fun h => by cases h⟩
  exact segsB_in (f := fun _ => false) (fun _ h => by cases h) (by kernel_rfl)
theorem ty85 : TyOK Go.Proofs.Tryd.prog 85 ⟨4, 32, .agg [.num 0], .st [(0, 60)], none, true⟩ := by
  refine ⟨info_of (by kernel_rfl : (Go.Proofs.Tryd.prog.info? 85).map (fun i => (i.size, i.bytes, i.zero)) = some (4, 32, some (AV.conc noLoc (.agg [.num 0])))), ?_, by kernel_rfl, by kernel_rfl, st_of (by kernel_rfl : stView Go.Proofs.Tryd.prog 85 = some ([(0, 60)], some [(0, 4)])), fun k hk => by simp at hk, fun _ => ⟨by kernel_rfl, by kernel_rfl, by kernel_rfl⟩⟩
  exact segsB_in (f := fun _ => false) (fun _ h => by cases h) (by kernel_rfl)
theorem ty86 : TyOK Go.Proofs.Tryd.prog 86 ⟨4, 32, .agg [.num 0], .st [(0, 60)], none, true⟩ := by
  refine ⟨info_of (by kernel_rfl : (Go.Proofs.Tryd.prog.info? 86).map (fun i => (i.size, i.bytes, i.zero)) = some (4, 32, some (AV.conc noLoc (.agg [.num 0])))), ?_, by kernel_rfl, by kernel_rfl, st_of (by kernel_rfl : stView Go.Proofs.Tryd.prog 86 = some ([(0, 60)], some [(0, 4)])), fun k hk => by simp at hk, fun _ => ⟨by kernel_rfl, by kernel_rfl, by kernel_rfl⟩⟩
  exact segsB_in (f := fun _ => false) (fun _ h => by cases h) (by kernel_rfl)
theorem ty88 : TyOK Go.Proofs.Tryd.prog 88 ⟨16, 128, .agg [.num 0, .num 0, .num 0, .num 0], .st [(0, 66), (8, 60), (12, 60)], none, false⟩ := by
  refine ⟨info_of (by kernel_rfl : (Go.Proofs.Tryd.prog.info? 88).map (fun i => (i.size, i.bytes, i.zero)) = some (16, 128, some (AV.conc noLoc (.agg [.num 0, .num 0, .num 0, .num 0])))), ?_, by kernel_rfl, by kernel_rfl, st_of (by kernel_rfl : stView Go.Proofs.Tryd.prog 88 = some ([(0, 66), (8, 60), (12, 60)], some [(0, 8), (8, 4), (12, 4)])), fun k hk => by simp at hk, fun h => by cases h⟩
  exact segsB_in (f := fun _ => false) (fun _ h => by cases h) (by kernel_rfl)
theorem ty89 : TyOK Go.Proofs.Tryd.prog 89 ⟨16, 128, .agg [.num 0, .num 0, .num 0, .num 0], .st [(0, 66), (8, 60), (12, 60)], none, false⟩ := by
  refine ⟨info_of (by kernel_rfl : (Go.Proofs.Tryd.prog.info? 89).map (fun i => (i.size, i.bytes, i.zero)) = some (16, 128, some (AV.conc noLoc (.agg [.num 0, .num 0, .num 0, .num 0])))), ?_, by kernel_rfl, by kernel_rfl, st_of (by kernel_rfl : stView Go.Proofs.Tryd.prog 89 = some ([(0, 66), (8, 60), (12, 60)], some [(0, 8), (8, 4), (12, 4)])), fun k hk => by simp at hk, fun h => by cases h⟩
  exact segsB_in (f := fun _ => false) (fun _ h => by cases h) (by kernel_rfl)
theorem ty92 : TyOK Go.Proofs.Tryd.prog 92 ⟨1, 8, .one (.v (.int .u64 0)), .int .u64, none, false⟩ := by
  refine ⟨info_of (by kernel_rfl : (Go.Proofs.Tryd.prog.info? 92).map (fun i => (i.size, i.bytes, i.zero)) = some (1, 8, some (AV.conc noLoc (.one (.v (.int .u64 0)))))), ?_, by kernel_rfl, by kernel_rfl, (by kernel_rfl : Go.Proofs.Tryd.prog.underlying 92 = some (.int .u64)), fun k hk => by simp at hk, fun h => by cases h⟩
  exact segsB_in (f := fun _ => false) (fun _ h => by cases h) (by kernel_rfl)
theorem ty95 : TyOK Go.Proofs.Tryd.prog 95 ⟨8, 64, .one (.arr .u64 (List.replicate 8 0)), .arr 8 58, some .u64, false⟩ := by
  refine ⟨info_of (by kernel_rfl : (Go.Proofs.Tryd.prog.info? 95).map (fun i => (i.size, i.bytes, i.zero)) = some (8, 64, some (AV.conc noLoc (.one (.arr .u64 (List.replicate 8 0)))))), ?_, by kernel_rfl, by kernel_rfl, (by kernel_rfl : Go.Proofs.Tryd.prog.underlying 95 = some (.array 8 58)), fun k hk => by simp at hk; subst hk; exact ⟨by kernel_rfl, 8, 58, _, rfl, by kernel_rfl, by kernel_rfl, (info_some (by kernel_rfl : (Go.Proofs.Tryd.prog.info? 58).map (fun i => i.size) = some 1)).choose_spec⟩, fun h => by cases h⟩
  exact segsB_in (f := fun _ => false) (fun _ h => by cases h) (by kernel_rfl)
theorem ty96 : TyOK Go.Proofs.Tryd.prog 96 ⟨8, 64, .one (.arr .u64 (List.replicate 8 0)), .arr 8 58, some .u64, false⟩ := by
  refine ⟨info_of (by kernel_rfl : (Go.Proofs.Tryd.prog.info? 96).map (fun i => (i.size, i.bytes, i.zero)) = some (8, 64, some (AV.conc noLoc (.one (.arr .u64 (List.replicate 8 0)))))), ?_, by kernel_rfl, by kernel_rfl, (by kernel_rfl : Go.Proofs.Tryd.prog.underlying 96 = some (.array 8 58)), fun k hk => by simp at hk; subst hk; exact ⟨by kernel_rfl, 8, 58, _, rfl, by kernel_rfl, by kernel_rfl, (info_some (by kernel_rfl : (Go.Proofs.Tryd.prog.info? 58).map (fun i => i.size) = some 1)).choose_spec⟩, fun h => by cases h⟩
  exact segsB_in (f := fun _ => false) (fun _ h => by cases h) (by kernel_rfl)
theorem ty97 : TyOK Go.Proofs.Tryd.prog 97 ⟨11, 104, .agg [.arr .u64 (List.replicate 8 0), .v (.slice none 0 0), .v (.int .i64 0), .v (.int .i64 0)], .st [(0, 96), (8, 24), (9, 3), (10, 3)], none, false⟩ := by
  refine ⟨info_of (by kernel_rfl : (Go.Proofs.Tryd.prog.info? 97).map (fun i => (i.size, i.bytes, i.zero)) = some (11, 104, some (AV.conc noLoc (.agg [.arr .u64 (List.replicate 8 0), .v (.slice none 0 0), .v (.int .i64 0), .v (.int .i64 0)])))), ?_, by kernel_rfl, by kernel_rfl, st_of (by kernel_rfl : stView Go.Proofs.Tryd.prog 97 = some ([(0, 96), (8, 24), (9, 3), (10, 3)], some [(0, 8), (8, 1), (9, 1), (10, 1)])), fun k hk => by simp at hk, fun h => by cases h⟩
  exact segsB_in (f := fun _ => false) (fun _ h => by cases h) (by kernel_rfl)
theorem ty98 : TyOK Go.Proofs.Tryd.prog 98 ⟨11, 104, .agg [.arr .u64 (List.replicate 8 0), .v (.slice none 0 0), .v (.int .i64 0), .v (.int .i64 0)], .st [(0, 96), (8, 24), (9, 3), (10, 3)], none, false⟩ := by
  refine ⟨info_of (by kernel_rfl : (Go.Proofs.Tryd.prog.info? 98).map (fun i => (i.size, i.bytes, i.zero)) = some (11, 104, some (AV.conc noLoc (.agg [.arr .u64 (List.replicate 8 0), .v (.slice none 0 0), .v (.int .i64 0), .v (.int .i64 0)])))), ?_, by kernel_rfl, by kernel_rfl, st_of (by kernel_rfl : stView Go.Proofs.Tryd.prog 98 = some ([(0, 96), (8, 24), (9, 3), (10, 3)], some [(0, 8), (8, 1), (9, 1), (10, 1)])), fun k hk => by simp at hk, fun h => by cases h⟩
  exact segsB_in (f := fun _ => false) (fun _ h => by cases h) (by kernel_rfl)
theorem ty102 : TyOK Go.Proofs.Tryd.prog 102 ⟨1, 24, .one (.v (.slice none 0 0)), .sl 60, none, false⟩ := by
  refine ⟨info_of (by kernel_rfl : (Go.Proofs.Tryd.prog.info? 102).map (fun i => (i.size, i.bytes, i.zero)) = some (1, 24, some (AV.conc noLoc (.one (.v (.slice none 0 0)))))), ?_, by kernel_rfl, by kernel_rfl, (by kernel_rfl : Go.Proofs.Tryd.prog.underlying 102 = some (.slice 60)), fun k hk => by simp at hk, fun h => by cases h⟩
  exact segsB_in (f := fun _ => false) (fun _ h => by cases h) (by kernel_rfl)
theorem ty106 : TyOK Go.Proofs.Tryd.prog 106 ⟨1, 8, .one (.v (.pointer none)), .ptr 96, none, false⟩ := by
  refine ⟨info_of (by kernel_rfl : (Go.Proofs.Tryd.prog.info? 106).map (fun i => (i.size, i.bytes, i.zero)) = some (1, 8, some (AV.conc noLoc (.one (.v (.pointer none)))))), ?_, by kernel_rfl, by kernel_rfl, (by kernel_rfl : Go.Proofs.Tryd.prog.underlying 106 = some (.pointer 96)), fun k hk => by simp at hk, fun h => by cases h⟩
  exact segsB_in (f := fun _ => false) (fun _ h => by cases h) (by kernel_rfl)
theorem ty107 : TyOK Go.Proofs.Tryd.prog 107 ⟨80, 640, .one (.arr .u64 (List.replicate 80 0)), .arr 80 58, some .u64, false⟩ := by
  refine ⟨info_of (by kernel_rfl : (Go.Proofs.Tryd.prog.info? 107).map (fun i => (i.size, i.bytes, i.zero)) = some (80, 640, some (AV.conc noLoc (.one (.arr .u64 (List.replicate 80 0)))))), ?_, by kernel_rfl, by kernel_rfl, (by kernel_rfl : Go.Proofs.Tryd.prog.underlying 107 = some (.array 80 58)), fun k hk => by simp at hk; subst hk; exact ⟨by kernel_rfl, 80, 58, _, rfl, by kernel_rfl, by kernel_rfl, (info_some (by kernel_rfl : (Go.Proofs.Tryd.prog.info? 58).map (fun i => i.size) = some 1)).choose_spec⟩, fun h => by cases h⟩
  exact segsB_in (f := fun _ => false) (fun _ h => by cases h) (by kernel_rfl)
theorem ty110 : TyOK Go.Proofs.Tryd.prog 110 ⟨1, 24, .one (.v (.slice none 0 0)), .sl 58, none, false⟩ := by
  refine ⟨info_of (by kernel_rfl : (Go.Proofs.Tryd.prog.info? 110).map (fun i => (i.size, i.bytes, i.zero)) = some (1, 24, some (AV.conc noLoc (.one (.v (.slice none 0 0)))))), ?_, by kernel_rfl, by kernel_rfl, (by kernel_rfl : Go.Proofs.Tryd.prog.underlying 110 = some (.slice 58)), fun k hk => by simp at hk, fun h => by cases h⟩
  exact segsB_in (f := fun _ => false) (fun _ h => by cases h) (by kernel_rfl)
theorem ty111 : TyOK Go.Proofs.Tryd.prog 111 ⟨8, 64, .one (.arr .u64 (List.replicate 8 0)), .arr 8 58, some .u64, false⟩ := by
  refine ⟨info_of (by kernel_rfl : (Go.Proofs.Tryd.prog.info? 111).map (fun i => (i.size, i.bytes, i.zero)) = some (8, 64, some (AV.conc noLoc (.one (.arr .u64 (List.replicate 8 0)))))), ?_, by kernel_rfl, by kernel_rfl, (by kernel_rfl : Go.Proofs.Tryd.prog.underlying 111 = some (.array 8 58)), fun k hk => by simp at hk; subst hk; exact ⟨by kernel_rfl, 8, 58, _, rfl, by kernel_rfl, by kernel_rfl, (info_some (by kernel_rfl : (Go.Proofs.Tryd.prog.info? 58).map (fun i => i.size) = some 1)).choose_spec⟩, fun h => by cases h⟩
  exact segsB_in (f := fun _ => false) (fun _ h => by cases h) (by kernel_rfl)
theorem ty116 : TyOK Go.Proofs.Tryd.prog 116 ⟨1, 24, .one (.v (.slice none 0 0)), .sl 3, none, false⟩ := by
  refine ⟨info_of (by kernel_rfl : (Go.Proofs.Tryd.prog.info? 116).map (fun i => (i.size, i.bytes, i.zero)) = some (1, 24, some (AV.conc noLoc (.one (.v (.slice none 0 0)))))), ?_, by kernel_rfl, by kernel_rfl, (by kernel_rfl : Go.Proofs.Tryd.prog.underlying 116 = some (.slice 3)), fun k hk => by simp at hk, fun h => by cases h⟩
  exact segsB_in (f := fun _ => false) (fun _ h => by cases h) (by kernel_rfl)
theorem ty127 : TyOK Go.Proofs.Tryd.prog 127 ⟨1, 4, .one (.v (.int .u32 0)), .int .u32, none, false⟩ := by
  refine ⟨info_of (by kernel_rfl : (Go.Proofs.Tryd.prog.info? 127).map (fun i => (i.size, i.bytes, i.zero)) = some (1, 4, some (AV.conc noLoc (.one (.v (.int .u32 0)))))), ?_, by kernel_rfl, by kernel_rfl, (by kernel_rfl : Go.Proofs.Tryd.prog.underlying 127 = some (.int .u32)), fun k hk => by simp at hk, fun h => by cases h⟩
  exact segsB_in (f := fun _ => false) (fun _ h => by cases h) (by kernel_rfl)
theorem ty131 : TyOK Go.Proofs.Tryd.prog 131 ⟨1, 8, .one (.v (.pointer none)), .ptr 5, none, false⟩ := by
  refine ⟨info_of (by kernel_rfl : (Go.Proofs.Tryd.prog.info? 131).map (fun i => (i.size, i.bytes, i.zero)) = some (1, 8, some (AV.conc noLoc (.one (.v (.pointer none)))))), ?_, by kernel_rfl, by kernel_rfl, (by kernel_rfl : Go.Proofs.Tryd.prog.underlying 131 = some (.pointer 5)), fun k hk => by simp at hk, fun h => by cases h⟩
  exact segsB_in (f := fun _ => false) (fun _ h => by cases h) (by kernel_rfl)
def tyT : List (Nat × Ty) := [(2, ⟨1, 8, .one (.v (.int .i64 0)), .int .i64, none, false⟩), (3, ⟨1, 8, .one (.v (.int .i64 0)), .int .i64, none, false⟩), (4, ⟨1, 1, .one (.v (.bool false)), .bool, none, false⟩), (5, ⟨1, 1, .one (.v (.int .u8 0)), .int .u8, none, false⟩), (9, ⟨1, 16, .one (.v (.string .empty)), .str, none, false⟩), (12, ⟨1, 8, .one (.v (.int .u64 0)), .int .u64, none, false⟩), (13, ⟨2, 24, .agg [.v (.string .empty), .v (.int .u64 0)], .st [(0, 9), (1, 12)], none, false⟩), (21, ⟨1, 4, .one (.v (.int .i32 0)), .int .i32, none, false⟩), (22, ⟨1, 8, .one (.v (.int .i64 0)), .int .i64, none, false⟩), (23, ⟨1, 8, .one (.v (.int .i64 0)), .int .i64, none, false⟩), (24, ⟨1, 24, .one (.v (.slice none 0 0)), .sl 5, none, false⟩), (25, ⟨3, 40, .agg [.v (.int .i64 0), .v (.int .i64 0), .v (.slice none 0 0)], .st [(0, 22), (1, 23), (2, 24)], none, false⟩), (26, ⟨3, 40, .agg [.v (.int .i64 0), .v (.int .i64 0), .v (.slice none 0 0)], .st [(0, 22), (1, 23), (2, 24)], none, false⟩), (28, ⟨2, 16, .agg [.v (.int .i64 0), .v (.int .i64 0)], .st [(0, 22), (1, 23)], none, true⟩), (29, ⟨2, 16, .agg [.v (.int .i64 0), .v (.int .i64 0)], .st [(0, 22), (1, 23)], none, true⟩), (30, ⟨3, 32, .agg [.v (.int .i64 0), .v (.int .i64 0), .v (.string .empty)], .st [(0, 29), (2, 9)], none, false⟩), (31, ⟨3, 32, .agg [.v (.int .i64 0), .v (.int .i64 0), .v (.string .empty)], .st [(0, 29), (2, 9)], none, false⟩), (32, ⟨1, 8, .one (.v (.int .i64 0)), .int .i64, none, false⟩), (38, ⟨32, 32, .one (.arr .u8 (List.replicate 32 0)), .arr 32 5, some .u8, false⟩), (43, ⟨1, 24, .one (.v (.slice none 0 0)), .sl 23, none, false⟩), (52, ⟨1, 8, .one (.v (.map none)), .mp 29 3, none, false⟩), (58, ⟨1, 8, .one (.v (.int .u64 0)), .int .u64, none, false⟩), (59, ⟨4, 32, .one (.num 0), .arr 4 58, some .u64, false⟩), (60, ⟨4, 32, .one (.num 0), .arr 4 58, some .u64, false⟩), (61, ⟨5, 56, .agg [.num 0, .v (.slice none 0 0)], .st [(0, 60), (4, 24)], none, false⟩), (62, ⟨5, 56, .agg [.num 0, .v (.slice none 0 0)], .st [(0, 60), (4, 24)], none, false⟩), (65, ⟨8, 64, .agg [.num 0, .num 0], .st [(0, 60), (4, 60)], none, true⟩), (66, ⟨8, 64, .agg [.num 0, .num 0], .st [(0, 60), (4, 60)], none, true⟩), (70, ⟨1, 24, .one (.v (.slice none 0 0)), .sl 24, none, false⟩), (72, ⟨64, 64, .one (.arr .u8 (List.replicate 64 0)), .arr 64 5, some .u8, false⟩), (78, ⟨1, 8, .one (.v (.pointer none)), .ptr 98, none, false⟩), (85, ⟨4, 32, .agg [.num 0], .st [(0, 60)], none, true⟩), (86, ⟨4, 32, .agg [.num 0], .st [(0, 60)], none, true⟩), (88, ⟨16, 128, .agg [.num 0, .num 0, .num 0, .num 0], .st [(0, 66), (8, 60), (12, 60)], none, false⟩), (89, ⟨16, 128, .agg [.num 0, .num 0, .num 0, .num 0], .st [(0, 66), (8, 60), (12, 60)], none, false⟩), (92, ⟨1, 8, .one (.v (.int .u64 0)), .int .u64, none, false⟩), (95, ⟨8, 64, .one (.arr .u64 (List.replicate 8 0)), .arr 8 58, some .u64, false⟩), (96, ⟨8, 64, .one (.arr .u64 (List.replicate 8 0)), .arr 8 58, some .u64, false⟩), (97, ⟨11, 104, .agg [.arr .u64 (List.replicate 8 0), .v (.slice none 0 0), .v (.int .i64 0), .v (.int .i64 0)], .st [(0, 96), (8, 24), (9, 3), (10, 3)], none, false⟩), (98, ⟨11, 104, .agg [.arr .u64 (List.replicate 8 0), .v (.slice none 0 0), .v (.int .i64 0), .v (.int .i64 0)], .st [(0, 96), (8, 24), (9, 3), (10, 3)], none, false⟩), (102, ⟨1, 24, .one (.v (.slice none 0 0)), .sl 60, none, false⟩), (106, ⟨1, 8, .one (.v (.pointer none)), .ptr 96, none, false⟩), (107, ⟨80, 640, .one (.arr .u64 (List.replicate 80 0)), .arr 80 58, some .u64, false⟩), (110, ⟨1, 24, .one (.v (.slice none 0 0)), .sl 58, none, false⟩), (111, ⟨8, 64, .one (.arr .u64 (List.replicate 8 0)), .arr 8 58, some .u64, false⟩), (116, ⟨1, 24, .one (.v (.slice none 0 0)), .sl 3, none, false⟩), (127, ⟨1, 4, .one (.v (.int .u32 0)), .int .u32, none, false⟩), (131, ⟨1, 8, .one (.v (.pointer none)), .ptr 5, none, false⟩)]
theorem tyT_ok : TOK Go.Proofs.Tryd.prog tyT := tok_of (⟨ty2, ty3, ty4, ty5, ty9, ty12, ty13, ty21, ty22, ty23, ty24, ty25, ty26, ty28, ty29, ty30, ty31, ty32, ty38, ty43, ty52, ty58, ty59, ty60, ty61, ty62, ty65, ty66, ty70, ty72, ty78, ty85, ty86, ty88, ty89, ty92, ty95, ty96, ty97, ty98, ty102, ty106, ty107, ty110, ty111, ty116, ty127, ty131, trivial⟩)
theorem mixed_ : Go.Proofs.Tryd.prog.follows .mixedOrders = true := by kernel_rfl
end Go.Proofs.YtpefomdegbmecaaDoor.Am
/- The abstract machine: contracts out of other contracts; hints; bytes. Conditions: none. -/
namespace Go.Proofs.YtpefomdegbmecaaDoor.Am
set_option linter.unusedVariables false
set_option linter.unusedSimpArgs false
open Go Go.RowKit

/-- A contract that says what another one says. -/
theorem EntOK.of [GT] {P : Program} {f : FuncId} {e e' : Ent} (h : EntOK P f e) (he : ∀ args G base r, e' args G base = some r → r.asm.holds → ∃ r0, e args G base = some r0 ∧ r0.asm.holds ∧ r0.val = r.val ∧ r0.new = r.new ∧ r0.upd = r.upd) : EntOK P f e' := by
  refine ⟨h.1, fun args G base res hr ha ρ D N M w hG hin hfr => ?_⟩
  obtain ⟨r0, h1, h2, h3, h4, h5⟩ := he args G base res hr ha
  refine (h.2 args G base r0 h1 h2 ρ D N M w hG hin (by rw [h4]; exact hfr)).mono fun e w' ⟨v, hv, ρ', hF⟩ => ⟨v, hv, ρ', ?_⟩
  have hap : appl G base r0 = appl G base res := by
    funext id; unfold appl; rw [h4, h5]
  exact ⟨hF.agree, by rw [← h3]; exact hF.val, by rw [← h4, ← hap]; exact hF.hr, hF.kept, by rw [← h4, ← h5]; exact hF.fresh⟩

def noH : Nat → Nat → Hint := fun _ _ => {}
/-- A hint at one place. -/
def atH (r i : Nat) (h : Hint) (H : Nat → Nat → Hint) : Nat → Nat → Hint := fun a b => match Nat.beq a r && Nat.beq b i with
  | true => h
  | false => H a b
def isB (b : Bool) : Hint := { is := some (ofV (.bool b)) }
def symH : Hint := { sym := true }
def e1I (k : IntKind) (F : Int → Int) : Ent := fun args _ _ => match args with
  | [.av (.one (.v (.int j z)))] => match Nat.beq (ik j) (ik k) with
    | true => some { val := ofV (.int k (F z)) }
    | false => none
  | _ => none
theorem ok_e1I [GT] {f : FuncId} {fn : Func} {k : IntKind} {F : Int → Int} (hf : Tryd.prog.funcs[f]? = some fn) (h2 : (fn.name == "runtime.NumGoroutine") = false) (h3 : fn.body.isSome = true) (h : ∀ (z : Int) (w : World), GWok w.heap.size [] w → Calls Tryd.prog f #[.int k z] w fun e w' => e = .returned (.int k (F z)) ∧ Below w.heap.size w w') : EntOK Tryd.prog f (e1I k F) := by
  refine ⟨⟨fn, hf, h2, h3⟩, fun args G base res hr ha ρ D N M w hG hin hfr => ?_⟩
  unfold e1I at hr
  split at hr
  · rename_i j z
    split at hr
    · rename_i hk
      have := ik_inj hk
      subst this
      simp only [Option.some.injEq] at hr
      subst hr
      exact ent_val (h z w hG.gwc) hG rfl rfl rfl
    · cases hr
  · cases hr
/-! bytes, as the program reckons them -/
def bx (a b : Int) : Int := IntKind.u8.wrap (BitVec.ofInt IntKind.u8.bits a ^^^ BitVec.ofInt IntKind.u8.bits b).toNat
def ba (a b : Int) : Int := IntKind.u8.wrap (BitVec.ofInt IntKind.u8.bits a &&& BitVec.ofInt IntKind.u8.bits b).toNat
def bs (a : Int) (n : Nat) : Int := IntKind.u8.wrap (a * 2 ^ min n IntKind.u8.bits)
end Go.Proofs.YtpefomdegbmecaaDoor.Am
/- The abstract machine: loops, and states by other names. Conditions: none. -/
namespace Go.Proofs.YtpefomdegbmecaaDoor.Am
set_option linter.unusedVariables false
set_option linter.unusedSimpArgs false
open Go Go.RowKit

/-- The first m names stay; those of es come behind them; only some slots are kept. -/
def nameN (m : Nat) (es : List Nat) (id : Nat) : Nat := match Nat.blt id m with
  | true => id
  | false => m + idx id es
def keepTm (g : SV → SV) (ks : List Nat) : Nat → List (Option SV) → List (Option SV)
  | _, [] => []
  | i, x :: l => (match memB i ks, x with
    | true, some v => some (g v)
    | _, _ => none) :: keepTm g ks (i + 1) l
def hpN (hp : List (Nat × Blk)) (g : Nat → Nat) : List Nat → List (Nat × Blk)
  | [] => []
  | id :: l => match look hp id with
    | some b => (g id, ⟨b.k, b.ty, renL g b.c⟩) :: hpN hp g l
    | none => hpN hp g l
def upTo : Nat → Nat → List Nat
  | _, 0 => []
  | i, n + 1 => i :: upTo (i + 1) n
def normSt (m : Nat) (es ks : List Nat) (s : St) : St :=
  { tm := keepTm (SV.ren (nameN m es)) ks 0 s.tm, hp := hpN s.hp (nameN m es) (upTo 0 m ++ es), nx := m + es.length, gl := s.gl }
def okN (m : Nat) (es : List Nat) (x : Seg) : Bool := x.ids.all fun id => Nat.blt id m || memB id es
def slotsB (p : Seg → Bool) (ks : List Nat) : Nat → List (Option SV) → Bool
  | _, [] => true
  | i, x :: l => (match memB i ks, x with
    | true, some v => v.allB p
    | _, _ => true) && slotsB p ks (i + 1) l
def nodupB : List Nat → Bool
  | [] => true
  | x :: l => !memB x l && nodupB l
def normB (m : Nat) (es ks : List Nat) (s : St) : Bool :=
  slotsB (okN m es) ks 0 s.tm && ((upTo 0 m ++ es).all (fun id => match look s.hp id with
    | some b => b.c.all (okN m es)
    | none => true) && (s.gl.all (fun x => Nat.blt x.2 m) && (nodupB es && es.all fun e => Nat.ble m e)))

theorem mem_upTo {x : Nat} : ∀ {i n : Nat}, x ∈ upTo i n ↔ i ≤ x ∧ x < i + n
  | i, 0 => by simp [upTo]
  | i, n + 1 => by
    simp only [upTo, List.mem_cons, mem_upTo (n := n)]
    omega
theorem nodupB_spec : ∀ {l : List Nat}, nodupB l = true → l.Nodup
  | [], _ => List.nodup_nil
  | x :: l, h => by
    unfold nodupB at h
    rw [Bool.and_eq_true] at h
    refine List.nodup_cons.2 ⟨fun hx => ?_, nodupB_spec h.2⟩
    rw [memB_mem.2 hx] at h
    cases h.1
theorem nth_keep {g : SV → SV} {ks : List Nat} {v : SV} : ∀ (l : List (Option SV)) (i t : Nat), nth (keepTm g ks i l) t = some (some v) → ∃ u, nth l t = some (some u) ∧ v = g u ∧ i + t ∈ ks
  | [], i, t, h => by simp [keepTm, nth] at h
  | x :: l, i, 0, h => by
    simp only [keepTm, nth, Option.some.injEq] at h
    split at h
    · rename_i u hm
      injection h with h
      exact ⟨u, rfl, h.symm, memB_mem.1 hm⟩
    · cases h
  | x :: l, i, t + 1, h => by
    simp only [keepTm, nth] at h
    obtain ⟨u, h1, h2, h3⟩ := nth_keep l (i + 1) t h
    exact ⟨u, h1, h2, by rw [show i + (t + 1) = i + 1 + t by omega]; exact h3⟩
theorem keepTm_len {g : SV → SV} {ks : List Nat} : ∀ (l : List (Option SV)) (i : Nat), (keepTm g ks i l).length = l.length
  | [], _ => rfl
  | x :: l, i => by simp [keepTm, keepTm_len l]
theorem slotsB_spec {p : Seg → Bool} {ks : List Nat} {v : SV} : ∀ (l : List (Option SV)) (i t : Nat), slotsB p ks i l = true → nth l t = some (some v) → i + t ∈ ks → v.allB p = true
  | [], i, t, _, h, _ => by simp [nth] at h
  | x :: l, i, 0, hs, h, hm => by
    simp only [nth, Option.some.injEq] at h
    subst h
    unfold slotsB at hs
    rw [Bool.and_eq_true] at hs
    have h1 := hs.1
    rw [Nat.add_zero] at hm
    rw [memB_mem.2 hm] at h1
    exact h1
  | x :: l, i, t + 1, hs, h, hm => by
    unfold slotsB at hs
    rw [Bool.and_eq_true] at hs
    exact slotsB_spec l (i + 1) t hs.2 h (by rw [show i + 1 + t = i + (t + 1) by omega]; exact hm)
theorem look_hpN {hp : List (Nat × Blk)} {g : Nat → Nat} {i : Nat} {b : Blk} : ∀ (l : List Nat), look (hpN hp g l) i = some b → ∃ id b0, id ∈ l ∧ g id = i ∧ look hp id = some b0 ∧ b = ⟨b0.k, b0.ty, renL g b0.c⟩
  | [], h => by cases h
  | id :: l, h => by
    unfold hpN at h
    split at h
    · rename_i b0 hb0
      rw [look_cons] at h
      by_cases hk : g id = i
      · rw [if_pos hk] at h
        injection h with h
        exact ⟨id, b0, by simp, hk, hb0, h.symm⟩
      · rw [if_neg hk] at h
        obtain ⟨id', b', h1, h2⟩ := look_hpN l h
        exact ⟨id', b', by simp [h1], h2⟩
    · obtain ⟨id', b', h1, h2⟩ := look_hpN l h
      exact ⟨id', b', by simp [h1], h2⟩

/-- Slots, by those that hold something. -/
def tmL (n : Nat) (l : List (Nat × SV)) : List (Option SV) := (upTo 0 n).map (look l)
def loopOf : List AI → Code
  | .code (.loop x) :: _ => x
  | _ => .skip
def restOf : List AI → List AI
  | _ :: k => k
  | [] => []
def todoOf : Option Out → List AI
  | some o => o.todo
  | none => []
section
variable {P : Program} {T : List (Nat × Ty)} {O : List (Nat × Ent)} {B : Exit → Act → World → Prop} {N : Nat} {M : List Nat} {w0 : Wd}
variable [GT]

theorem norm_runs {todo : List AI} {s : St} {m : Nat} {es ks : List Nat} (h : normB m es ks s = true) (hm : ∀ id x, w0.lk id = some x → id < m) (hR : Runs P B N M w0 todo (normSt m es ks s)) : Runs P B N M w0 todo s := by
  intro ρ a w hr
  unfold normB at h
  simp only [Bool.and_eq_true, List.all_eq_true] at h
  obtain ⟨h1, h2, h3, h4, h5⟩ := h
  have hnd := nodupB_spec h4
  have hge : ∀ e ∈ es, m ≤ e := fun e he => Nat.le_of_ble_eq_true (h5 e he)
  obtain ⟨ρ', hρ'⟩ : ∃ ρ' : Nat → Loc, (fun i : Nat => if i < m then ρ i else ρ (es.getD (i - m) 0)) = ρ' := ⟨_, rfl⟩
  have hlow : ∀ id, id < m → nameN m es id = id := fun id hid => by
    unfold nameN
    rw [show Nat.blt id m = true from Nat.ble_eq_true_of_le hid]
  have hhigh : ∀ id, id ∈ es → nameN m es id = m + idx id es := fun id hid => by
    unfold nameN
    have : Nat.blt id m = false := by
      rcases hh : Nat.blt id m with _ | _
      · rfl
      · have : id + 1 ≤ m := Nat.le_of_ble_eq_true hh
        have := hge id hid
        omega
    rw [this]
  have hok : ∀ id, (id < m ∨ id ∈ es) → ρ' (nameN m es id) = ρ id ∧ nameN m es id < m + es.length := fun id hid => by
    rw [← hρ']
    rcases hid with hid | hid
    · rw [hlow id hid]
      simp only [if_pos hid]
      exact ⟨trivial, by omega⟩
    · rw [hhigh id hid]
      have := idx_lt hid
      simp only [if_neg (show ¬ m + idx id es < m by omega), Nat.add_sub_cancel_left]
      refine ⟨?_, by omega⟩
      rw [List.getD_eq_getElem?_getD, idx_get hid]
      rfl
  have hinj : ∀ i j, (i < m ∨ i ∈ es) → (j < m ∨ j ∈ es) → nameN m es i = nameN m es j → i = j := fun i j hi hj he => by
    rcases hi with hi | hi <;> rcases hj with hj | hj
    · rw [hlow i hi, hlow j hj] at he; exact he
    · rw [hlow i hi, hhigh j hj] at he; omega
    · rw [hhigh i hi, hlow j hj] at he; omega
    · rw [hhigh i hi, hhigh j hj] at he
      have h1 := idx_get hi
      have h2 := idx_get hj
      rw [show idx i es = idx j es by omega, h2] at h1
      injection h1 with h1
      exact h1.symm
  have hseg : ∀ x : Seg, okN m es x = true → (∀ id, id ∈ x.ids → id < m ∨ id ∈ es) := fun x hx id hid => by
    unfold okN at hx
    have := List.all_eq_true.1 hx id hid
    rw [Bool.or_eq_true] at this
    exact this.imp (fun h => Nat.le_of_ble_eq_true h) memB_mem.1
  have hSame : ∀ x : Seg, okN m es x = true → Same (nameN m es) ρ ρ' x := fun x hx => by
    refine ⟨fun id hid => by rw [(hok id (hseg x hx id hid)).1], fun id o l a he => (hok id (hseg x hx id (by rw [he]; simp [Seg.ids]))).1⟩
  have hblk : ∀ i b, look (hpN s.hp (nameN m es) (upTo 0 m ++ es)) i = some b → ∃ id b0, (id < m ∨ id ∈ es) ∧ nameN m es id = i ∧ look s.hp id = some b0 ∧ b = ⟨b0.k, b0.ty, renL (nameN m es) b0.c⟩ ∧ ∀ x ∈ b0.c, okN m es x = true := fun i b hb => by
    obtain ⟨id, b0, hid, h6, h7, h8⟩ := look_hpN _ hb
    refine ⟨id, b0, ?_, h6, h7, h8, ?_⟩
    · rcases List.mem_append.1 hid with h | h
      · exact .inl (by have := mem_upTo.1 h; omega)
      · exact .inr h
    · have := h2 id hid
      rw [h7] at this
      exact List.all_eq_true.1 this
  refine hR ρ' a w ⟨⟨fun t sv ht => ?_, fun x id hx => ?_, ⟨hr.rel.hr.size, fun i b hb => ?_, fun i b x hb hx => ?_, fun i b x hb hk hx => ?_, fun i j bi bj x y hi hj hij hk hx hy => ?_, hr.rel.hr.gw⟩, hr.rel.kept, hr.rel.defers⟩, ?_⟩
  · unfold St.get normSt at ht
    simp only at ht
    split at ht
    · rename_i v hv
      injection ht with ht
      subst ht
      obtain ⟨u, hu, rfl, hk⟩ := nth_keep _ _ _ hv
      have hs := slotsB_spec _ _ _ h1 hu hk
      have hg : s.get t = some u := by unfold St.get; rw [hu]
      obtain ⟨h6, h7⟩ := hr.rel.slots t u hg
      have hall := SV.allB_all.1 hs
      refine ⟨h6.trans (SV.ren_conc (hall.mono fun x hx => hSame x hx)).symm, SV.ren_in (hall.mono fun x hx id hid => (hok id (hseg x hx id hid)).2)⟩
    · cases ht
  · have hid : id < m := by
      rcases hx with ⟨g, rfl, hg⟩ | hx
      · exact Nat.le_of_ble_eq_true (h3 _ (look_mem _ _ _ hg))
      · exact hm id x hx
    have h6 := (hr.rel.globals x id hx).1
    have h7 := (hok id (.inl hid)).1
    rw [hlow id hid] at h7
    exact ⟨by rw [h7]; exact h6, show id < m + es.length by omega⟩
  · obtain ⟨id, b0, hid, rfl, hb0, rfl, hc⟩ := hblk i b hb
    obtain ⟨h6, h7, h8⟩ := hr.rel.hr.blk id b0 hb0
    refine ⟨(hok id hid).2, renL_in fun x hx j hj => (hok j (hseg x (hc x hx) j hj)).2, ?_⟩
    have e1 := renL_vals fun x hx => hSame x (hc x hx)
    have e2 := (hok id hid).1
    unfold BlkOK at h8 ⊢
    rw [e1, e2]
    exact h8
  · obtain ⟨id, b0, hid, rfl, hb0, rfl, hc⟩ := hblk i b hb
    rw [(hok id hid).1] at hx
    exact hr.rel.hr.lt id b0 x hb0 hx
  · obtain ⟨id, b0, hid, rfl, hb0, rfl, hc⟩ := hblk i b hb
    rw [(hok id hid).1] at hx
    exact hr.rel.hr.own id b0 x hb0 hk hx
  · obtain ⟨id, b0, hid, rfl, hb0, rfl, hc⟩ := hblk i bi hi
    obtain ⟨id', b1, hid', rfl, hb1, rfl, hc'⟩ := hblk j bj hj
    rw [(hok id hid).1] at hx
    rw [(hok id' hid').1] at hy
    exact hr.rel.hr.dist id id' b0 b1 x y hb0 hb1 (fun e => hij (by rw [e])) hk hx hy
  · rw [hr.size]
    exact (keepTm_len _ _).symm

theorem loop_runs {x : Code} {k : List AI} {s : St} (n : Nat) (h : Runs P B N M w0 (.hd n x :: k) s) : Runs P B N M w0 (.code (.loop x) :: k) s :=
  fun ρ a w hr => wp_loop_rounds n (h ρ a w hr)
theorem hd_runs {x : Code} {k : List AI} {s : St} {n : Nat} (h : Runs P B N M w0 (.code x :: .hd n x :: k) s) : Runs P B N M w0 (.hd (n + 1) x :: k) s := by
  intro ρ a w hr
  have := h ρ a w hr
  show x.wp P (Exit.then (Code.rounds P x (Kst P B k) n) (Kst P B k)) a w
  rw [← kst_hd]
  exact this

omit [GT] in
/-- A run, up to where it stops, and the state there by its new names. -/
def runN (T : List (Nat × Ty)) (O : List (Nat × Ent)) (H : Nat → Nat → Hint) (LH : List (Nat × Nat)) (fuel : Nat) (m : Nat) (es ks : List Nat) (todo : List AI) (s : St) : Option (List AI × St × List Prop) :=
  match arun T O H LH fuel todo s with
  | some o => match normB m es ks o.st with
    | true => some (o.todo, normSt m es ks o.st, o.asm.list [])
    | false => none
  | none => none
theorem runN_runs (hT : TOK P T) (hO : OOK P O) (hmx : P.follows .mixedOrders = true) {H : Nat → Nat → Hint} {LH : List (Nat × Nat)} {fuel m : Nat} {es ks : List Nat} {todo todo' : List AI} {s s' : St} {ps : List Prop} (h : runN T O H LH fuel m es ks todo s = some (todo', s', ps)) (hps : AllP ps) (hm : ∀ id x, w0.lk id = some x → id < m) (hR : Runs P B N M w0 todo' s') : Runs P B N M w0 todo s := by
  unfold runN at h
  split at h
  · rename_i o ho
    split at h
    · rename_i hn
      simp only [Option.some.injEq, Prod.mk.injEq] at h
      obtain ⟨rfl, rfl, rfl⟩ := h
      exact arun_sound hT hO hmx _ _ _ _ ho (Asm.of_list _ _ hps).1 (norm_runs hn hm hR)
    · cases h
  · cases h

theorem Reaches.trans {m0 : Nat} {a b c : List AI} {s t u : St} (h : Reaches P m0 a s b t) (k : Reaches P m0 b t c u) : Reaches P m0 a s c u := fun B N M w0 hl hR => h B N M w0 hl (k B N M w0 hl hR)
theorem Reaches.refl {m0 : Nat} {a : List AI} {s : St} : Reaches P m0 a s a s := fun _ _ _ _ _ h => h
theorem Reaches.loop {m0 : Nat} {x : Code} {k c : List AI} {s u : St} (n : Nat) (h : Reaches P m0 (.hd n x :: k) s c u) : Reaches P m0 (.code (.loop x) :: k) s c u := fun B N M w0 hl hR => loop_runs n (h B N M w0 hl hR)
theorem Reaches.round {m0 : Nat} {x : Code} {k c : List AI} {s u : St} {n : Nat} (h : Reaches P m0 (.code x :: .hd n x :: k) s c u) : Reaches P m0 (.hd (n + 1) x :: k) s c u := fun B N M w0 hl hR => hd_runs (h B N M w0 hl hR)
theorem reach_run (hT : TOK P T) (hO : OOK P O) (hmx : P.follows .mixedOrders = true) {H : Nat → Nat → Hint} {LH : List (Nat × Nat)} {fuel m0 m : Nat} {es ks : List Nat} {todo todo' : List AI} {s s' : St} {ps : List Prop} (h : runN T O H LH fuel m es ks todo s = some (todo', s', ps)) (hps : AllP ps) (hm : Nat.ble m0 m = true) : Reaches P m0 todo s todo' s' :=
  fun _ _ _ _ hl hR => runN_runs hT hO hmx h hps (fun id x hx => Nat.lt_of_lt_of_le (hl id x hx) (Nat.le_of_ble_eq_true hm)) hR
end
end Go.Proofs.YtpefomdegbmecaaDoor.Am
/- The abstract machine: contracts of functions that only read, whatever shape the cells have. Conditions: none. -/
namespace Go.Proofs.YtpefomdegbmecaaDoor.Am
set_option linter.unusedVariables false
set_option linter.unusedSimpArgs false
open Go Go.RowKit

section
variable {P : Program} {ρ : Nat → Loc} {D : Nat → Prop} {N : Nat} {M : List Nat} {G : Nat → Option Blk} {base : Nat}
variable [GT]

/-- A contract that makes and changes nothing. -/
theorem ent_pure {f : FuncId} {e : Ent} (hE : EntOK P f e) {args : List SV} {r : Res} (he : e args G base = some r) (ha : r.asm.holds) (hn : r.new = []) (hu : r.upd = []) (hv : svB (fun _ => false) r.val = true) {w : World} (hG : HR ρ D N M G w) (hin : ∀ s ∈ args, s.In D) :
    Calls P f (args.map (SV.conc ρ)).toArray w fun e w' => e = .returned (r.val.conc ρ) ∧ Below w.heap.size w w' := by
  refine (hE.2 args G base r he ha ρ D N M w hG hin (fun id h1 h2 => by rw [hn] at h2; simp at h2; omega)).mono fun e w' ⟨v, hv', ρ', hF⟩ => ⟨?_, (hF.fresh hu).1⟩
  rw [hv', hF.val, SV.conc_congr (D := fun _ => False) (ρ := ρ) (ρ' := ρ') (fun _ h => h.elim) (svB_in (f := fun _ => false) (fun _ h => by cases h) hv)]
/-- What a read of a row needs: one block, to be read. -/
theorem hr_one {w : World} {id : Nat} {b : Blk} (hG : HR ρ D N M G w) (hb : G id = some b) {ty : TypeId} {c : List Seg} (hc : ∀ s ∈ c, s.ids = []) (he : segsVals ρ c = segsVals ρ b.c) : HR (fun _ => ⟨(ρ id).a, widths b.c⟩) (· < 1) w.heap.size [] (fun i => if i = 0 then some ⟨2, ty, c⟩ else none) w := by
  have hcv : ∀ ρ', segsVals ρ' c = segsVals ρ c := fun ρ' => segsVals_congr (D := fun _ => False) (fun _ h => h.elim) fun s hs => Seg.in_ids.2 fun i hi => by rw [hc s hs] at hi; cases hi
  refine ⟨Nat.le_refl _, fun i b' hb' => ?_, fun i b' x hb' hx => ?_, fun i b' x hb' hk hx => ?_, fun i j bi bj x y hi hj hij hk hx hy => ?_, hG.gw.call hG.size fun g hg => by cases hg⟩
  · split at hb'
    · rename_i hi
      subst hi
      injection hb' with hb'
      subst hb'
      refine ⟨by omega, (fun s hs => Seg.in_ids.2 fun i hi => (by rw [hc s hs] at hi; cases hi)), ?_⟩
      show (segsVals _ c).length ≤ _ ∧ _
      rw [hcv, he]
      refine ⟨by rw [segsVals_len]; exact Nat.le_refl _, ?_⟩
      cases hs : segsVals ρ b.c with
      | nil => exact .inl rfl
      | cons y l =>
        right
        have hok := (hG.blk id b hb).2.2
        obtain ⟨x, hx, _⟩ := hok.cells (j := 0) (u := y) (by rw [hs]; rfl)
        refine ⟨x, hx, fun j u hj => ?_⟩
        rw [← hs] at hj
        obtain ⟨x', hx', hc'⟩ := hok.cells hj
        rw [hx] at hx'
        injection hx' with hx'
        subst hx'
        exact hc'
    · cases hb'
  · split at hb'
    · exact hG.lt id b x hb hx
    · cases hb'
  · split at hb'
    · injection hb' with hb'
      subst hb'
      simp at hk
    · cases hb'
  · split at hi
    · injection hi with hi
      subst hi
      simp at hk
    · cases hi
/-- What reads of several blocks need. -/
theorem hr_ros {w : World} (hG : HR ρ D N M G w) {ρc : Nat → Loc} {k : Nat} {hp0 : List (Nat × Blk)} (h : ∀ i b, look hp0 i = some b → b.k = 2 ∧ i < k ∧ segsIn (· < k) b.c ∧ ∃ id b0, G id = some b0 ∧ ρc i = ⟨(ρ id).a, widths b0.c⟩ ∧ segsVals ρc b.c = segsVals ρ b0.c) : HR ρc (· < k) w.heap.size [] (look hp0) w := by
  refine ⟨Nat.le_refl _, fun i b hb => ?_, fun i b x hb hx => ?_, fun i b x hb hk hx => ?_, fun i j bi bj x y hi hj hij hk hx hy => ?_, hG.gw.call hG.size fun g hg => by cases hg⟩
  · obtain ⟨h1, h2, h3, id, b0, hb0, hρ, he⟩ := h i b hb
    refine ⟨h2, h3, ?_⟩
    obtain ⟨kk, ty, c⟩ := b
    simp only at h1 he
    subst h1
    show (segsVals _ c).length ≤ _ ∧ _
    rw [he, hρ]
    refine ⟨by rw [segsVals_len]; exact Nat.le_refl _, ?_⟩
    cases hs : segsVals ρ b0.c with
    | nil => exact .inl rfl
    | cons y l =>
      right
      have hok := (hG.blk id b0 hb0).2.2
      obtain ⟨x, hx, _⟩ := hok.cells (j := 0) (u := y) (by rw [hs]; rfl)
      refine ⟨x, hx, fun j u hj => ?_⟩
      rw [← hs] at hj
      obtain ⟨x', hx', hc'⟩ := hok.cells hj
      rw [hx] at hx'
      injection hx' with hx'
      subst hx'
      exact hc'
  · obtain ⟨h1, h2, h3, id, b0, hb0, hρ, he⟩ := h i b hb
    rw [hρ] at hx
    exact hG.lt id b0 x hb0 hx
  · have := (h i b hb).1
    omega
  · have := (h i bi hi).1
    omega
/-- A run that reads, and hands back a value. -/
theorem reach_val {T : List (Nat × Ty)} (hT : TOK P T) {f : FuncId} {fn : Func} (hf : P.funcs[f]? = some fn) {c : Code} (hb : fn.body = some c) {avs : List SV} {k : Nat} {hp0 : List (Nat × Blk)} {todo' : List AI} (hfin : todo' = [] ∨ todo' = [.fin]) {st : St} (hRe : Reaches P 0 [.code c] (start avs fn.ntmps hp0 k []) todo' st) {v : SV} (hv : resVal T st fn.results.toList = some v) (hvb : svB (fun _ => false) v = true) {ρc : Nat → Loc} {w : World} (hlen : Nat.ble avs.length fn.ntmps = true) (hin : ∀ s ∈ avs, s.In (· < k)) (hG : HR ρc (· < k) w.heap.size [] (look hp0) w) (ρ : Nat → Loc) :
    Calls P f (avs.map (SV.conc ρc)).toArray w fun e w' => e = .returned (v.conc ρ) ∧ Below w.heap.size w w' := by
  refine calls_am hf hb (ρ := ρc) (M := []) (nx := k) (hp := hp0) (gl := []) rfl hin (Nat.le_of_ble_eq_true hlen) hG (lk := fun _ => none) (fun x i h => by rcases h with ⟨_, _, h⟩ | h <;> cases h) ?_
  refine hRe _ _ _ _ (fun id x hx => by cases hx) (runs_end hT hfin hv fun ρ1 a1 w1 hrel => ⟨?_, hrel.rel.kept.below⟩)
  rw [SV.conc_congr (D := fun _ => False) (ρ := ρ) (ρ' := ρ1) (fun _ h => h.elim) (svB_in (f := fun _ => false) (fun _ h => by cases h) hvb)]
/-- A run that reads, and hands back new blocks. -/
theorem reach_newG {T : List (Nat × Ty)} (hT : TOK P T) {f : FuncId} {fn : Func} (hf : P.funcs[f]? = some fn) {c : Code} (hb : fn.body = some c) {avs : List SV} {k : Nat} {hp0 : List (Nat × Blk)} {todo' : List AI} (hfin : todo' = [] ∨ todo' = [.fin]) {st : St} {gl : List (Nat × Nat)} (hRe : Reaches P 0 [.code c] (start avs fn.ntmps hp0 k gl) todo' st) {v : SV} (hv : resVal T st fn.results.toList = some v) {es : List Nat} (hvX : v.allB (expB 0 es fun _ => false) = true) (heX : es.all (esB 0 st.hp (expB 0 es fun _ => false)) = true) (hnd : nodupB es = true)
    {ρc : Nat → Loc} {w : World} (hlen : Nat.ble avs.length fn.ntmps = true) (hin : ∀ s ∈ avs, s.In (· < k)) (hG0 : HR ρc (· < k) w.heap.size [] (look hp0) w) (hgl : ∀ g id, look gl g = some id → (ρc id).a = some ⟨g, 0, none⟩ ∧ id < k) (hG : HR ρ D N M G w) (hfr : ∀ id, base ≤ id → id < base + es.length → ¬ D id) {r : Res} (hr : (r.val, r.new, r.upd) = (v.ren fun e => base + idx e es, newOf st.hp (fun e => base + idx e es) es, [])) :
    Calls P f (avs.map (SV.conc ρc)).toArray w fun e w' => ∃ v', e = .returned v' ∧ ∃ ρ', Fits ρ D N M G base r w ρ' v' w' := by
  simp only [Prod.mk.injEq] at hr
  obtain ⟨hr1, hr2, hr3⟩ := hr
  refine calls_am hf hb (ρ := ρc) (M := []) (nx := k) (hp := hp0) (gl := gl) rfl hin (Nat.le_of_ble_eq_true hlen) hG0 (lk := fun _ => none) (fun x i h => by
    rcases h with ⟨g, rfl, h⟩ | h
    · exact hgl g i h
    · cases h) ?_
  refine hRe _ _ _ _ (fun id x hx => by cases hx) (runs_end hT hfin hv fun ρ1 a1 w1 hrel => ⟨_, rfl, ?_⟩)
  have heX := List.all_eq_true.1 heX
  have hesS : ∀ e ∈ es, ([] : List Nat).length ≤ e ∧ ∃ b, look st.hp e = some b ∧ b.k < 2 := fun e he => by
    have := heX e he
    unfold esB at this
    split at this
    · rename_i b hb
      rw [Bool.and_eq_true, Bool.and_eq_true] at this
      exact ⟨Nat.zero_le _, b, hb, Nat.le_of_ble_eq_true this.2.1⟩
    · cases this
  have hesn := nodupB_spec hnd
  obtain ⟨hn1, hn2⟩ := newOf_spec (hp := st.hp) (τ := fun e => base + idx e es) (es := es) fun e he => (hesS e he).2.imp fun _ h => h.1
  refine inl_fits (G1 := look st.hp) (nx := st.nx) (σ := []) (es := es) (mu := []) (Mc := []) hG (fun i id hi => by simp at hi) (fun i j id hi => by simp at hi) hfr hrel.rel.hr hrel.rel.kept (fun i id x hi => by simp at hi) (fun g hg => by cases hg) (fun i hi => by cases hi) hesS (fun i j e h1 h2 => ?_) (τ := fun e => base + idx e es) (fun i id hi => by simp at hi) (fun j e he => ?_) hr1 (by rw [hr2]; exact hn1) (by rw [hr2]; exact hn2) (fun i id b hi => by cases hi) (fun id _ => by rw [hr3]; rfl) (fun _ => rfl) (fun s => expB 0 es (fun _ => false) s = true) (fun s hs => ?_) (SV.allB_all.1 hvX) (fun e he b hb s hs => ?_) (fun i hi => by cases hi)
  · exact (List.getElem?_inj (by
      rcases Nat.lt_or_ge i es.length with h | h
      · exact h
      · rw [List.getElem?_eq_none h] at h1; cases h1) hesn).1 (h1.trans h2.symm)
  · have he' := List.mem_of_getElem? he
    have h1 := idx_get he'
    rw [(List.getElem?_inj (idx_lt he') hesn).1 (h1.trans he.symm)]
  · have key : ∀ id, (memB id es || (Nat.blt id 0 && false)) = true → id ∈ es := fun id h => by
      rw [Bool.and_false, Bool.or_false] at h
      exact memB_mem.1 h
    cases s with
    | v | num | arr | ap | vs => exact ⟨fun id hid => by simp [Seg.ids] at hid, fun _ _ _ _ h => by cases h⟩
    | p id off => exact ⟨fun i hi => by simp [Seg.ids] at hi; subst hi; exact .inl (key _ hs), fun _ _ _ _ h => by cases h⟩
    | s id off len cap => exact ⟨fun i hi => by simp [Seg.ids] at hi; subst hi; exact .inl (key _ hs), fun _ _ _ _ h => by cases h⟩
    | r id off len ad => exact ⟨fun i hi => by simp [Seg.ids] at hi; subst hi; exact .inl (memB_mem.1 hs), fun _ _ _ _ h => by injection h with h; subst h; exact memB_mem.1 hs⟩
    | m id => cases hs
  · have := heX e he
    unfold esB at this
    rw [hb] at this
    simp only [Bool.and_eq_true, List.all_eq_true] at this
    exact this.2.2 s hs
/-- A run that reads, and hands back new blocks. -/
theorem reach_new {T : List (Nat × Ty)} (hT : TOK P T) {f : FuncId} {fn : Func} (hf : P.funcs[f]? = some fn) {c : Code} (hb : fn.body = some c) {avs : List SV} {k : Nat} {hp0 : List (Nat × Blk)} {todo' : List AI} (hfin : todo' = [] ∨ todo' = [.fin]) {st : St} (hRe : Reaches P 0 [.code c] (start avs fn.ntmps hp0 k []) todo' st) {v : SV} (hv : resVal T st fn.results.toList = some v) {es : List Nat} (hvX : v.allB (expB 0 es fun _ => false) = true) (heX : es.all (esB 0 st.hp (expB 0 es fun _ => false)) = true) (hnd : nodupB es = true)
    {ρc : Nat → Loc} {w : World} (hlen : Nat.ble avs.length fn.ntmps = true) (hin : ∀ s ∈ avs, s.In (· < k)) (hG0 : HR ρc (· < k) w.heap.size [] (look hp0) w) (hG : HR ρ D N M G w) (hfr : ∀ id, base ≤ id → id < base + es.length → ¬ D id) {r : Res} (hr : (r.val, r.new, r.upd) = (v.ren fun e => base + idx e es, newOf st.hp (fun e => base + idx e es) es, [])) :
    Calls P f (avs.map (SV.conc ρc)).toArray w fun e w' => ∃ v', e = .returned v' ∧ ∃ ρ', Fits ρ D N M G base r w ρ' v' w' :=
  reach_newG hT hf hb hfin hRe hv hvX heX hnd hlen hin hG0 (fun g id h => by cases h) hG hfr hr

end
end Go.Proofs.YtpefomdegbmecaaDoor.Am
/- The abstract machine: loops by their names; runs of functions; contracts by arguments' values. Conditions: none. -/
namespace Go.Proofs.YtpefomdegbmecaaDoor.Am
set_option linter.unusedVariables false
set_option linter.unusedSimpArgs false
open Go Go.RowKit

/-! ### Loops, found by their first region -/
def findL (r : Nat) : Code → List AI → List Nat → Option (Code × List AI)
  | .seq a b, k, ns => match findL r a (.code b :: k) ns with
    | some x => some x
    | none => findL r b k ns
  | .block id x, k, ns => findL r x (.blk id :: k) ns
  | .loop x, k, ns => match Nat.beq (firstReg x) r with
    | true => some (x, k)
    | false => findL r x (.hd (ns.headD 0) x :: k) ns.tail
  | .cond _ x y, k, ns => match findL r x k ns with
    | some z => some z
    | none => findL r y k ns
  | _, _, _ => none
def loopAt (fn : Func) (r : Nat) (ns : List Nat) : Code × List AI := match fn.body with
  | some c => (findL r c [] ns).getD (.skip, [])
  | none => (.skip, [])
/-- At a loop's head, with so many rounds left. -/
def hdAt (fn : Func) (r : Nat) (ns : List Nat) (n : Nat) : List AI := .hd n (loopAt fn r ns).1 :: (loopAt fn r ns).2
/-- At a round's beginning. -/
def inAt (fn : Func) (r : Nat) (ns : List Nat) (n : Nat) : List AI := .code (loopAt fn r ns).1 :: .hd n (loopAt fn r ns).1 :: (loopAt fn r ns).2
/-- Ahead of a loop. -/
def toAt (fn : Func) (r : Nat) (ns : List Nat) : List AI := .code (.loop (loopAt fn r ns).1) :: (loopAt fn r ns).2

/-! ### What is leaned on, in plain words -/
def tB (x b : Bool) : Prop := ∀ ρ : Nat → Loc, (ofV (.bool x)).conc ρ = (ofV (.bool b)).conc ρ
def tI (k : IntKind) (x y : Int) : Prop := ∀ ρ : Nat → Loc, (ofV (.int k x)).conc ρ = (ofV (.int k y)).conc ρ
theorem tB_iff {x b : Bool} : tB x b ↔ x = b := by
  constructor
  · intro h
    have := h fun _ => ⟨none, 0⟩
    simp only [ofV, SV.conc, AV.conc, Seg.conc] at this
    injection this
  · intro h ρ
    rw [h]
theorem tI_iff {k : IntKind} {x y : Int} : tI k x y ↔ x = y := by
  constructor
  · intro h
    have := h fun _ => ⟨none, 0⟩
    simp only [ofV, SV.conc, AV.conc, Seg.conc] at this
    injection this
  · intro h ρ
    rw [h]
theorem w64 {z : Int} (h : -9223372036854775808 ≤ z) (h' : z < 9223372036854775808) : IntKind.i64.wrap z = z := by
  simp [IntKind.wrap, IntKind.bits, IntKind.signed]
  omega
theorem w8 {z : Int} (h : 0 ≤ z) (h' : z < 256) : IntKind.u8.wrap z = z := by
  simp [IntKind.wrap, IntKind.bits, IntKind.signed]
  omega
theorem tI_64 {z : Int} : tI .i64 (IntKind.i64.wrap z) z ↔ -9223372036854775808 ≤ z ∧ z < 9223372036854775808 := by
  rw [tI_iff]
  constructor
  · intro h
    simp [IntKind.wrap, IntKind.bits, IntKind.signed] at h
    omega
  · intro h
    exact w64 h.1 h.2
theorem tB_lt {a b : Int} : tB (decide (a < b)) true ↔ a < b := by rw [tB_iff, decide_eq_true_iff]
theorem tB_nlt {a b : Int} : tB (decide (a < b)) false ↔ b ≤ a := by rw [tB_iff, decide_eq_false_iff_not, Int.not_lt]
theorem tB_le {a b : Int} : tB (decide (a ≤ b)) true ↔ a ≤ b := by rw [tB_iff, decide_eq_true_iff]
theorem tB_nle {a b : Int} : tB (decide (a ≤ b)) false ↔ b < a := by rw [tB_iff, decide_eq_false_iff_not, Int.not_le]
theorem tB_gt {a b : Int} : tB (decide (a > b)) true ↔ b < a := tB_lt
theorem tB_ngt {a b : Int} : tB (decide (a > b)) false ↔ a ≤ b := tB_nlt
theorem tB_ge {a b : Int} : tB (decide (a ≥ b)) true ↔ b ≤ a := tB_le
theorem tB_nge {a b : Int} : tB (decide (a ≥ b)) false ↔ a < b := tB_nle
theorem tB_eq {a b : Int} : tB (a == b) true ↔ a = b := by rw [tB_iff, beq_iff_eq]
theorem tB_neq {a b : Int} : tB (a == b) false ↔ a ≠ b := by rw [tB_iff, beq_eq_false_iff_ne]
theorem tB_ne {a b : Int} : tB (a != b) true ↔ a ≠ b := by rw [tB_iff, bne_iff_ne]
theorem tB_nne {a b : Int} : tB (a != b) false ↔ a = b := by rw [tB_iff, bne_eq_false_iff_eq]
theorem allP_nil : AllP [] ↔ True := Iff.rfl
theorem allP_cons {p : Prop} {l : List Prop} : AllP (p :: l) ↔ p ∧ AllP l := Iff.rfl
/-- A hint that tells an integer. -/
def isI (k : IntKind) (z : Int) : Hint := { is := some (ofV (.int k z)) }

section
variable {P : Program} {T : List (Nat × Ty)} {O : List (Nat × Ent)}
variable [GT]

/-! ### Runs from a function's beginning -/
def From (P : Program) (fn : Func) (avs : List SV) (hp : List (Nat × Blk)) (nx : Nat) (gl : List (Nat × Nat)) (todo : List AI) (s : St) : Prop :=
  ∃ c, fn.body = some c ∧ Reaches P 0 [.code c] (start avs fn.ntmps hp nx gl) todo s
omit [GT] in
def runF (T : List (Nat × Ty)) (O : List (Nat × Ent)) (H : Nat → Nat → Hint) (LH : List (Nat × Nat)) (m : Nat) (es ks : List Nat) (fn : Func) (avs : List SV) (hp : List (Nat × Blk)) (nx : Nat) (gl : List (Nat × Nat)) : Option (List AI × St × List Prop) :=
  match fn.body with
  | some c => runN T O H LH 100000 m es ks [.code c] (start avs fn.ntmps hp nx gl)
  | none => none
theorem From.run (hT : TOK P T) (hO : OOK P O) (hmx : P.follows .mixedOrders = true) {H : Nat → Nat → Hint} {LH : List (Nat × Nat)} {m : Nat} {es ks : List Nat} {fn : Func} {avs : List SV} {hp : List (Nat × Blk)} {nx : Nat} {gl : List (Nat × Nat)} {todo' : List AI} {s' : St} {ps : List Prop} (h : runF T O H LH m es ks fn avs hp nx gl = some (todo', s', ps)) (hps : AllP ps) : From P fn avs hp nx gl todo' s' := by
  unfold runF at h
  split at h
  · rename_i c hc
    exact ⟨c, hc, reach_run hT hO hmx h hps (Nat.ble_eq_true_of_le (Nat.zero_le _))⟩
  · cases h
theorem From.trans {fn : Func} {avs : List SV} {hp : List (Nat × Blk)} {nx : Nat} {gl : List (Nat × Nat)} {todo todo' : List AI} {s s' : St} (h : From P fn avs hp nx gl todo s) (k : Reaches P 0 todo s todo' s') : From P fn avs hp nx gl todo' s' :=
  let ⟨c, hc, hr⟩ := h
  ⟨c, hc, hr.trans k⟩
theorem Reaches.rounds {fn : Func} {r : Nat} {ns : List Nat} {s u : St} {c : List AI} (n : Nat) (h : Reaches P 0 (hdAt fn r ns n) s c u) : Reaches P 0 (toAt fn r ns) s c u := Reaches.loop n h
theorem Reaches.one {fn : Func} {r : Nat} {ns : List Nat} {n : Nat} {s u : St} {c : List AI} (h : Reaches P 0 (inAt fn r ns n) s c u) : Reaches P 0 (hdAt fn r ns (n + 1)) s c u := Reaches.round h
/-- A run from somewhere. -/
theorem Reaches.run (hT : TOK P T) (hO : OOK P O) (hmx : P.follows .mixedOrders = true) {H : Nat → Nat → Hint} {LH : List (Nat × Nat)} {fuel m : Nat} {es ks : List Nat} {todo todo' : List AI} {s s' : St} {ps : List Prop} (h : runN T O H LH fuel m es ks todo s = some (todo', s', ps)) (hps : AllP ps) : Reaches P 0 todo s todo' s' := reach_run hT hO hmx h hps (Nat.ble_eq_true_of_le (Nat.zero_le _))

/-! ### A nil slice is an empty row -/
omit [GT] in
def isNilAt (s : St) (t : Nat) : Bool := match s.get t with
  | some (.av (.one (.v (.slice none 0 0)))) => true
  | _ => false
omit [GT] in
def adoptSt (e : TypeId) (k : IntKind) (t : Nat) (s : St) : St :=
  { tm := setNth (some (.av (.one (.r s.nx 0 0 0)))) s.tm t, hp := (s.nx, ⟨1, e, [.arr k []]⟩) :: s.hp, nx := s.nx + 1, gl := s.gl }
theorem Reaches.adopt {m0 : Nat} {todo : List AI} {s : St} {t : Nat} (e : TypeId) (k : IntKind) (h : isNilAt s t = true) : Reaches P m0 todo s todo (adoptSt e k t s) := by
  intro B N M w0 hl hR ρ a w hr
  have hx : s.get t = some (ofV (.slice none 0 0)) := by
    unfold isNilAt at h
    split at h
    · assumption
    · cases h
  have hv := (hr.rel.slots t _ hx).1
  have hag : ∀ i, i < s.nx → up ρ s.nx ⟨none, 0⟩ i = ρ i := fun i hi => up_agree (D := (· < s.nx)) (by omega) i hi
  refine hR (up ρ s.nx ⟨none, 0⟩) a w ⟨⟨fun u sv hu => ?_, fun x id hx => ?_, ?_, hr.rel.kept, hr.rel.defers⟩, ?_⟩
  · unfold adoptSt St.get at hu
    simp only [nth_set] at hu
    by_cases htu : t = u
    · subst htu
      rw [if_pos rfl] at hu
      split at hu
      · rename_i v hv'
        injection hu with hu
        subst hu
        split at hv'
        · injection hv' with hv'
          injection hv' with hv'
          subst hv'
          refine ⟨?_, fun s hs => ?_⟩
          · rw [hv]
            simp [ofV, SV.conc, AV.conc, Seg.conc, up_self, radr]
          · simp only [AV.segs, List.mem_cons, List.not_mem_nil, or_false] at hs
            subst hs
            show s.nx < s.nx + 1
            omega
        · cases hv'
      · cases hu
    · rw [if_neg htu] at hu
      obtain ⟨h1, h2⟩ := hr.rel.slots u sv hu
      exact ⟨by rw [SV.conc_congr hag h2]; exact h1, h2.mono fun i hi => Nat.lt_succ_of_lt hi⟩
  · obtain ⟨h1, h2⟩ := hr.rel.globals x id hx
    exact ⟨by rw [hag id h2]; exact h1, Nat.lt_succ_of_lt h2⟩
  · have ha : ∀ i, look ((s.nx, (⟨1, e, [.arr k []]⟩ : Blk)) :: s.hp) i = if s.nx = i then some ⟨1, e, [.arr k []]⟩ else look s.hp i := fun i => look_cons _ _ _ _
    refine hr.rel.hr.step (U := fun i => i = s.nx) hag (fun i hi => Nat.lt_succ_of_lt hi) (Kept.refl _ _ _) (fun i b hb hU => ?_) (fun i b x hb hU hx => rfl) (fun i b hb hU => ?_) (fun i b x hb hU hx => ?_) (fun i b x hb hU hk hx => ?_) (fun i j bi bj x y hi hj hij hU hk hx hy => ?_)
    · rw [show (adoptSt e k t s).hp = (s.nx, (⟨1, e, [.arr k []]⟩ : Blk)) :: s.hp from rfl, ha, if_neg (fun h => hU h.symm)] at hb
      exact hb
    · subst hU
      rw [show (adoptSt e k t s).hp = (s.nx, (⟨1, e, [.arr k []]⟩ : Blk)) :: s.hp from rfl, ha, if_pos rfl] at hb
      injection hb with hb
      subst hb
      refine ⟨Nat.lt_succ_self _, fun x hx => (by simp at hx; subst hx; trivial), ?_⟩
      show w.ownsRow 0 e 1 _ _ _
      rw [up_self]
      exact ⟨(Nat.mul_one _).symm, .inl ⟨rfl, rfl⟩⟩
    · subst hU
      rw [up_self] at hx
      cases hx
    · subst hU
      rw [up_self] at hx
      cases hx
    · rcases hU with rfl | rfl
      · rw [up_self] at hx; cases hx
      · rw [up_self] at hy; cases hy
  · rw [hr.size]
    exact (setNth_len _ _ _).symm
end
end Go.Proofs.YtpefomdegbmecaaDoor.Am
