/- The abstract machine: a call that the machine runs through itself, as a contract. Conditions: none. -/
import Derived.Test.YtkoackalpcmhaaaM23
namespace Go.Proofs.Ytkoackalpcmhaaa.Am
set_option linter.unusedVariables false
set_option linter.unusedSimpArgs false
open Go Go.RowKit

def idsA : List SV → List Nat
  | [] => []
  | x :: l => x.ids ++ idsA l
def reach (G : Nat → Option Blk) : Nat → List Nat → List Nat → Option (List Nat)
  | 0, _, _ => none
  | _ + 1, [], acc => some acc
  | f + 1, id :: l, acc => match memB id acc with
    | true => reach G f l acc
    | false => match G id with
      | some b => reach G f (idsL b.c ++ l) (id :: acc)
      | none => reach G f l (id :: acc)
def SV.allB (p : Seg → Bool) : SV → Bool
  | .av a => a.segs.all p
  | .tup l => l.all fun a => a.segs.all p
def refB (G : Nat → Option Blk) : Seg → Bool
  | .r id _ _ _ => match G id with
    | some b => Nat.ble 1 b.k
    | none => false
  | _ => true
def kindOf (i k : Nat) (mu : List Nat) : Nat := match memB i mu with
  | true => match k with
    | 0 => 0
    | _ => 2
  | false => 2
def hpOf (G : Nat → Option Blk) (f : Nat → Nat) (mu : List Nat) : List Nat → Nat → List (Nat × Blk)
  | [], _ => []
  | id :: l, i => match G id with
    | some b => (i, ⟨kindOf i b.k mu, b.ty, renL f b.c⟩) :: hpOf G f mu l (i + 1)
    | none => hpOf G f mu l (i + 1)
def reachE (hp : List (Nat × Blk)) (k : Nat) : Nat → List Nat → List Nat → Option (List Nat)
  | 0, _, _ => none
  | _ + 1, [], acc => some acc
  | f + 1, id :: l, acc => match Nat.blt id k || memB id acc with
    | true => reachE hp k f l acc
    | false => match look hp id with
      | some b => reachE hp k f (idsL b.c ++ l) (id :: acc)
      | none => none
def expB (k : Nat) (es : List Nat) (A : Nat → Bool) : Seg → Bool
  | .p id _ => memB id es || (Nat.blt id k && A id)
  | .s id _ _ _ => memB id es || (Nat.blt id k && A id)
  | .r id _ _ _ => memB id es
  | _ => true
def muOf (σ : List Nat) : List SV → Nat → List Nat → List Nat
  | [], _, _ => []
  | x :: l, i, mu => match memB i mu, x with
    | true, .av (.one (.p id _)) => idx id σ :: muOf σ l (i + 1) mu
    | true, .av (.one (.s id _ _ _)) => idx id σ :: muOf σ l (i + 1) mu
    | _, _ => muOf σ l (i + 1) mu
def idsM (hp : List (Nat × Blk)) : List Nat → List Nat
  | [] => []
  | i :: l => match look hp i with
    | some b => idsL b.c ++ idsM hp l
    | none => idsM hp l
def ren2 (σ es : List Nat) (base i : Nat) : Nat := match Nat.blt i σ.length with
  | true => match nth σ i with
    | some id => id
    | none => 0
  | false => base + idx i es
def updOf (σ : List Nat) (hp : List (Nat × Blk)) (τ : Nat → Nat) : List Nat → List (Nat × Option Blk)
  | [] => []
  | i :: l => match nth σ i, look hp i with
    | some id, some b => (id, some ⟨0, b.ty, renL τ b.c⟩) :: updOf σ hp τ l
    | _, _ => updOf σ hp τ l
def newOf (hp : List (Nat × Blk)) (τ : Nat → Nat) : List Nat → List Blk
  | [] => []
  | e :: l => match look hp e with
    | some b => ⟨b.k, b.ty, renL τ b.c⟩ :: newOf hp τ l
    | none => newOf hp τ l
def muB (G : Nat → Option Blk) (σ : List Nat) (hp : List (Nat × Blk)) (p : Seg → Bool) (i : Nat) : Bool := match nth σ i, look hp i with
  | some id, some b => match G id with
    | some b0 => Nat.beq b0.k 0 && (Nat.beq b.k 0 && b.c.all p)
    | none => false
  | _, _ => false
def esB (k : Nat) (hp : List (Nat × Blk)) (p : Seg → Bool) (e : Nat) : Bool := match look hp e with
  | some b => Nat.ble k e && (Nat.blt b.k 2 && b.c.all p)
  | none => false
def blkB (G : Nat → Option Blk) (id : Nat) : Bool := match G id with
  | some b => b.c.all (refB G)
  | none => true
def aOf (hp : List (Nat × Blk)) (id : Nat) : Bool := match look hp id with
  | some b => hasA b
  | none => false
def inlOut (G : Nat → Option Blk) (base : Nat) (σ mu : List Nat) (hp0 : List (Nat × Blk)) : Option (SV × St × Asm) → Option Res
  | none => none
  | some (v, st, p) => match reachE st.hp σ.length 100 (v.ids ++ idsM st.hp mu) [] with
    | none => none
    | some es => match v.allB (expB σ.length es (aOf hp0)) && (mu.all (muB G σ st.hp (expB σ.length es (aOf hp0))) && es.all (esB σ.length st.hp (expB σ.length es (aOf hp0)))) with
      | true => some { val := v.ren (ren2 σ es base), new := newOf st.hp (ren2 σ es base) es, upd := updOf σ st.hp (ren2 σ es base) mu, asm := p }
      | false => none
def inl (T : List (Nat × Ty)) (O : List (Nat × Ent)) (H : Nat → Nat → Hint) (LH : List (Nat × Nat)) (fuel : Nat) (fn : Func) (mu : List Nat) : Ent := fun args G base =>
  match fn.body, reach G 100 (idsA args) [] with
  | some c, some σ => match args.all (SV.allB (refB G)) && (σ.all (blkB G) && Nat.ble args.length fn.ntmps) with
    | true => inlOut G base σ (muOf σ args 0 mu) (hpOf G (fun id => idx id σ) (muOf σ args 0 mu) σ 0) (whole T O H LH fuel fn.results.toList [.code c] (start (args.map (SV.ren fun id => idx id σ)) fn.ntmps (hpOf G (fun id => idx id σ) (muOf σ args 0 mu) σ 0) σ.length []))
    | false => none
  | _, _ => none

theorem mem_idsL {id : Nat} : ∀ {l : List Seg}, id ∈ idsL l ↔ ∃ s ∈ l, id ∈ s.ids
  | [] => by simp [idsL]
  | x :: l => by simp [idsL, mem_idsL (l := l)]
theorem mem_idsT {id : Nat} : ∀ {l : List AV}, id ∈ idsT l ↔ ∃ a ∈ l, ∃ s ∈ a.segs, id ∈ s.ids
  | [] => by simp [idsT]
  | x :: l => by simp [idsT, mem_idsT (l := l), mem_idsL]
theorem SV.ids_all {p : Nat → Prop} {s : SV} : (∀ id, id ∈ s.ids → p id) ↔ s.All fun x => ∀ id, id ∈ x.ids → p id := by
  cases s with
  | av a =>
    simp only [SV.ids, mem_idsL, SV.All]
    exact ⟨fun h x hx id hid => h id ⟨x, hx, hid⟩, fun h id ⟨x, hx, hid⟩ => h x hx id hid⟩
  | tup l =>
    simp only [SV.ids, mem_idsT, SV.All]
    exact ⟨fun h a ha x hx id hid => h id ⟨a, ha, x, hx, hid⟩, fun h id ⟨a, ha, x, hx, hid⟩ => h a ha x hx id hid⟩
theorem mem_idsA {id : Nat} : ∀ {l : List SV}, id ∈ idsA l ↔ ∃ a ∈ l, id ∈ a.ids
  | [] => by simp [idsA]
  | x :: l => by simp [idsA, mem_idsA (l := l)]
theorem Seg.in_ids {D : Nat → Prop} {s : Seg} : s.In D ↔ ∀ id, id ∈ s.ids → D id := by
  cases s <;> simp [Seg.In, Seg.ids]
theorem segsIn_ids {D : Nat → Prop} {l : List Seg} : segsIn D l ↔ ∀ id, id ∈ idsL l → D id := by
  simp only [segsIn, Seg.in_ids, mem_idsL]
  exact ⟨fun h id ⟨x, hx, hid⟩ => h x hx id hid, fun h x hx id hid => h id ⟨x, hx, hid⟩⟩
theorem SV.in_all {D : Nat → Prop} {s : SV} : s.In D ↔ s.All fun x => ∀ id, id ∈ x.ids → D id := by
  cases s with
  | av a => simp only [SV.In, AV.In, segsIn, SV.All, Seg.in_ids]
  | tup l => simp only [SV.In, AV.In, segsIn, SV.All, Seg.in_ids]
theorem SV.allB_all {p : Seg → Bool} {s : SV} : s.allB p = true ↔ s.All fun x => p x = true := by
  cases s <;> simp [SV.allB, SV.All, List.all_eq_true]
theorem SV.All.mono {p q : Seg → Prop} (h : ∀ x, p x → q x) {s : SV} (hs : s.All p) : s.All q := by
  revert hs
  cases s with
  | av a => exact fun hs x hx => h x (hs x hx)
  | tup l => exact fun hs a ha x hx => h x (hs a ha x hx)
theorem SV.All.and {p q : Seg → Prop} {s : SV} (hs : s.All p) (ht : s.All q) : s.All fun x => p x ∧ q x := by
  revert hs ht
  cases s with
  | av a => exact fun hs ht x hx => ⟨hs x hx, ht x hx⟩
  | tup l => exact fun hs ht a ha x hx => ⟨hs a ha x hx, ht a ha x hx⟩

theorem reach_spec {G : Nat → Option Blk} {D : Nat → Prop} (hD : ∀ id b, G id = some b → ∀ i ∈ idsL b.c, D i) : ∀ (f : Nat) (todo acc σ : List Nat), reach G f todo acc = some σ → acc.Nodup → (∀ id ∈ acc, ∀ b, G id = some b → ∀ i ∈ idsL b.c, i ∈ acc ∨ i ∈ todo) → (∀ id ∈ acc, D id) → (∀ id ∈ todo, D id) →
    σ.Nodup ∧ (∀ id ∈ acc, id ∈ σ) ∧ (∀ id ∈ todo, id ∈ σ) ∧ (∀ id ∈ σ, D id) ∧ (∀ id ∈ σ, ∀ b, G id = some b → ∀ i ∈ idsL b.c, i ∈ σ)
  | 0, _, _, _, h, _, _, _, _ => by cases h
  | f + 1, [], acc, σ, h, hn, hc, ha, ht => by
    simp only [reach, Option.some.injEq] at h
    subst h
    exact ⟨hn, fun id h => h, fun id h => (by cases h), ha, fun id hid b hb i hi => (hc id hid b hb i hi).resolve_right (by simp)⟩
  | f + 1, id :: l, acc, σ, h, hn, hc, ha, ht => by
    unfold reach at h
    split at h
    · rename_i hm
      have hm := memB_mem.1 hm
      obtain ⟨h1, h2, h3, h4, h5⟩ := reach_spec hD f l acc σ h hn (fun x hx b hb i hi => (hc x hx b hb i hi).elim .inl fun h => (List.mem_cons.1 h).elim (fun e => .inl (e ▸ hm)) .inr) ha (fun x hx => ht x (by simp [hx]))
      exact ⟨h1, h2, fun x hx => (List.mem_cons.1 hx).elim (fun e => h2 x (e ▸ hm)) (h3 x), h4, h5⟩
    · rename_i hm
      have hm : id ∉ acc := fun h => by rw [memB_mem.2 h] at hm; cases hm
      split at h
      · rename_i b hb
        obtain ⟨h1, h2, h3, h4, h5⟩ := reach_spec hD f (idsL b.c ++ l) (id :: acc) σ h (List.nodup_cons.2 ⟨hm, hn⟩) (fun x hx b' hb' i hi => by
          rcases List.mem_cons.1 hx with rfl | hx
          · rw [hb] at hb'; injection hb' with hb'; subst hb'
            exact .inr (List.mem_append_left _ hi)
          · rcases hc x hx b' hb' i hi with h | h
            · exact .inl (List.mem_cons_of_mem _ h)
            · rcases List.mem_cons.1 h with rfl | h
              · exact .inl (by simp)
              · exact .inr (List.mem_append_right _ h)) (fun x hx => (List.mem_cons.1 hx).elim (fun e => e ▸ ht id (by simp)) (ha x)) (fun x hx => (List.mem_append.1 hx).elim (hD id b hb x) fun h => ht x (by simp [h]))
        exact ⟨h1, fun x hx => h2 x (List.mem_cons_of_mem _ hx), fun x hx => (List.mem_cons.1 hx).elim (fun e => h2 x (by simp [e])) fun h => h3 x (List.mem_append_right _ h), h4, h5⟩
      · rename_i hb
        obtain ⟨h1, h2, h3, h4, h5⟩ := reach_spec hD f l (id :: acc) σ h (List.nodup_cons.2 ⟨hm, hn⟩) (fun x hx b' hb' i hi => by
          rcases List.mem_cons.1 hx with rfl | hx
          · rw [hb] at hb'; cases hb'
          · rcases hc x hx b' hb' i hi with h | h
            · exact .inl (List.mem_cons_of_mem _ h)
            · rcases List.mem_cons.1 h with rfl | h
              · exact .inl (by simp)
              · exact .inr h) (fun x hx => (List.mem_cons.1 hx).elim (fun e => e ▸ ht id (by simp)) (ha x)) (fun x hx => ht x (by simp [hx]))
        exact ⟨h1, fun x hx => h2 x (List.mem_cons_of_mem _ hx), fun x hx => (List.mem_cons.1 hx).elim (fun e => h2 x (by simp [e])) (h3 x), h4, h5⟩
theorem reachE_nodup {hp : List (Nat × Blk)} {k : Nat} : ∀ (f : Nat) (todo acc es : List Nat), reachE hp k f todo acc = some es → acc.Nodup → es.Nodup
  | 0, _, _, _, h, _ => by cases h
  | f + 1, [], acc, es, h, hn => by
    simp only [reachE, Option.some.injEq] at h
    subst h; exact hn
  | f + 1, id :: l, acc, es, h, hn => by
    unfold reachE at h
    split at h
    · exact reachE_nodup f l acc es h hn
    · rename_i hm
      split at h
      · refine reachE_nodup f _ _ es h (List.nodup_cons.2 ⟨fun hc => ?_, hn⟩)
        rw [Bool.or_eq_false_iff] at hm
        rw [memB_mem.2 hc] at hm
        cases hm.2
      · cases h
theorem look_hpOf {G : Nat → Option Blk} {f : Nat → Nat} {mu : List Nat} {i : Nat} {b : Blk} : ∀ (l : List Nat) (k : Nat), look (hpOf G f mu l k) i = some b → ∃ j id b0, i = k + j ∧ l[j]? = some id ∧ G id = some b0 ∧ b = ⟨kindOf i b0.k mu, b0.ty, renL f b0.c⟩
  | [], k, h => by cases h
  | id :: l, k, h => by
    unfold hpOf at h
    split at h
    · rename_i b0 hb0
      rw [look_cons] at h
      by_cases hk : k = i
      · rw [if_pos hk] at h
        injection h with h
        subst hk h
        exact ⟨0, id, b0, rfl, rfl, hb0, rfl⟩
      · rw [if_neg hk] at h
        obtain ⟨j, id', b', hj, hl, hG, hb⟩ := look_hpOf l (k + 1) h
        exact ⟨j + 1, id', b', by omega, by simpa using hl, hG, hb⟩
    · obtain ⟨j, id', b', hj, hl, hG, hb⟩ := look_hpOf l (k + 1) h
      exact ⟨j + 1, id', b', by omega, by simpa using hl, hG, hb⟩
theorem kindOf_lt {i k : Nat} {mu : List Nat} (h : kindOf i k mu < 2) : i ∈ mu ∧ k = 0 ∧ kindOf i k mu = 0 := by
  unfold kindOf at *
  split at h
  · rename_i hm
    refine ⟨memB_mem.1 hm, ?_⟩
    cases k with
    | zero => simp
    | succ k => simp at h
  · omega
theorem kindOf_cases (i k : Nat) (mu : List Nat) : (i ∈ mu ∧ k = 0 ∧ kindOf i k mu = 0) ∨ kindOf i k mu = 2 := by
  rcases Nat.lt_or_ge (kindOf i k mu) 2 with h | h
  · exact .inl (kindOf_lt h)
  · right
    unfold kindOf at *
    split at h
    · cases k with
      | zero => simp at h
      | succ k => rfl
    · rfl
/-- A block that is known may be read. -/
theorem BlkOK.ro {ρ : Nat → Loc} {w : World} {id : Nat} {b : Blk} (h : BlkOK ρ w id b) (hc : (segsVals ρ b.c).length ≤ (ρ id).cap ∨ 1 ≤ b.k) : (segsVals ρ b.c).length ≤ (ρ id).cap ∧ (segsVals ρ b.c = [] ∨ ∃ x, (ρ id).a = some x ∧ ∀ j u, (segsVals ρ b.c)[j]? = some u → w.cell? (x.add j) = some u) := by
  have h2 : segsVals ρ b.c = [] ∨ ∃ x, (ρ id).a = some x ∧ ∀ j u, (segsVals ρ b.c)[j]? = some u → w.cell? (x.add j) = some u := by
    cases hs : segsVals ρ b.c with
    | nil => exact .inl rfl
    | cons y l =>
      right
      obtain ⟨x, hx, _⟩ := h.cells (j := 0) (u := y) (by rw [hs]; rfl)
      refine ⟨x, hx, fun j u hj => ?_⟩
      rw [← hs] at hj
      obtain ⟨x', hx', hc'⟩ := h.cells hj
      rw [hx] at hx'
      injection hx' with hx'
      subst hx'
      exact hc'
  refine ⟨?_, h2⟩
  rcases hc with hc | hc
  · exact hc
  · obtain ⟨k, ty, c⟩ := b
    unfold BlkOK at h
    match k, h, hc with
    | 0, _, hc => simp at hc
    | 1, h, _ =>
      rcases h.2 with ⟨_, he⟩ | ⟨g, cap, cur, hv, _, _, hr⟩
      · show (segsVals ρ c).length ≤ (ρ id).cap
        have he' : (segsVals ρ c).length = 0 := he
        omega
      · have hcap : (ρ id).cap = cap := by injection hv
        show (segsVals ρ c).length ≤ (ρ id).cap
        rw [hcap]
        exact hr.1
    | k + 2, h, _ => exact h.1

theorem nth_some {l : List Nat} {i x : Nat} : nth l i = some x ↔ l[i]? = some x := by rw [nth_get?]
section
variable {P : Program} {T : List (Nat × Ty)} {O : List (Nat × Ent)}

theorem muOf_mem {σ : List Nat} {mu : List Nat} {i : Nat} : ∀ {args : List SV} {k : Nat}, i ∈ muOf σ args k mu → ∃ a ∈ args, ∃ id ∈ a.ids, i = idx id σ
  | [], _, h => by cases h
  | x :: l, k, h => by
    unfold muOf at h
    split at h
    · rename_i id off hm
      rcases List.mem_cons.1 h with rfl | h
      · exact ⟨_, List.mem_cons_self, id, by simp [SV.ids, AV.segs, idsL, Seg.ids], rfl⟩
      · obtain ⟨a, ha, r⟩ := muOf_mem h
        exact ⟨a, List.mem_cons_of_mem _ ha, r⟩
    · rename_i id o l' c hm
      rcases List.mem_cons.1 h with rfl | h
      · exact ⟨_, List.mem_cons_self, id, by simp [SV.ids, AV.segs, idsL, Seg.ids], rfl⟩
      · obtain ⟨a, ha, r⟩ := muOf_mem h
        exact ⟨a, List.mem_cons_of_mem _ ha, r⟩
    · obtain ⟨a, ha, r⟩ := muOf_mem h
      exact ⟨a, List.mem_cons_of_mem _ ha, r⟩
theorem newOf_spec {hp : List (Nat × Blk)} {τ : Nat → Nat} : ∀ {es : List Nat}, (∀ e ∈ es, ∃ b, look hp e = some b) → (newOf hp τ es).length = es.length ∧ ∀ (j e : Nat) (b : Blk), es[j]? = some e → look hp e = some b → (newOf hp τ es)[j]? = some ⟨b.k, b.ty, renL τ b.c⟩
  | [], _ => ⟨rfl, fun j e b h => by simp at h⟩
  | e :: l, h => by
    obtain ⟨b, hb⟩ := h e (by simp)
    obtain ⟨h1, h2⟩ := newOf_spec (es := l) (τ := τ) fun x hx => h x (by simp [hx])
    unfold newOf
    rw [hb]
    refine ⟨by simp [h1], fun j e' b' hj hb' => ?_⟩
    cases j with
    | zero =>
      simp only [List.getElem?_cons_zero, Option.some.injEq] at hj
      subst hj
      rw [hb] at hb'
      injection hb' with hb'
      subst hb'
      rfl
    | succ j =>
      rw [List.getElem?_cons_succ] at hj ⊢
      exact h2 j e' b' hj hb'
theorem updOf_spec {σ : List Nat} {hp : List (Nat × Blk)} {τ : Nat → Nat} (hσn : ∀ i j id : Nat, σ[i]? = some id → σ[j]? = some id → i = j) : ∀ {mu : List Nat},
    (∀ (i id : Nat) (b : Blk), i ∈ mu → σ[i]? = some id → look hp i = some b → look (updOf σ hp τ mu) id = some (some ⟨0, b.ty, renL τ b.c⟩)) ∧ (∀ id : Nat, (∀ i : Nat, i ∈ mu → σ[i]? ≠ some id) → look (updOf σ hp τ mu) id = none) ∧ ((∀ i ∈ mu, ∃ id b, σ[i]? = some id ∧ look hp i = some b) → updOf σ hp τ mu = [] → mu = [])
  | [] => ⟨(fun i id b h => (by cases h)), (fun id _ => rfl), (fun _ _ => rfl)⟩
  | i :: l => by
    obtain ⟨h1, h2, h3⟩ := updOf_spec hσn (mu := l)
    unfold updOf
    split
    · rename_i id0 b0 hid0 hb0
      rw [nth_some] at hid0
      refine ⟨fun i' id b hi hid hb => ?_, fun id hn => ?_, fun _ h => by cases h⟩
      · rw [look_cons]
        by_cases he : id0 = id
        · rw [if_pos he]
          subst he
          have := hσn _ _ _ hid0 hid
          subst this
          rw [hb0] at hb
          injection hb with hb
          subst hb
          rfl
        · rw [if_neg he]
          refine h1 i' id b ((List.mem_cons.1 hi).resolve_left fun e => he ?_) hid hb
          subst e
          rw [hid0] at hid
          injection hid
      · rw [look_cons, if_neg fun e => hn i (by simp) (by rw [← e]; exact hid0)]
        exact h2 id fun i' hi => hn i' (by simp [hi])
    · rename_i hno
      refine ⟨fun i' id b hi hid hb => ?_, fun id hn => h2 id fun i' hi => hn i' (by simp [hi]), fun hall _ => ?_⟩
      · rcases List.mem_cons.1 hi with rfl | hi
        · exact absurd hb (hno id b (nth_some.2 hid))
        · exact h1 i' id b hi hid hb
      · obtain ⟨id, b, hid, hb⟩ := hall i (by simp)
        exact absurd hb (hno id b (nth_some.2 hid))

/-- From a beginning, what is still to do comes to that state. -/
def Reaches (P : Program) (m0 : Nat) (todo : List AI) (s : St) (todo' : List AI) (s' : St) : Prop :=
  ∀ (B : Exit → Act → World → Prop) (N : Nat) (M : List Nat) (w0 : Wd), (∀ id x, w0.lk id = some x → id < m0) → Runs P B N M w0 todo' s' → Runs P B N M w0 todo s
theorem whole_reaches (hT : TOK P T) (hO : OOK P O) (hm : P.follows .mixedOrders = true) {H : Nat → Nat → Hint} {LH : List (Nat × Nat)} {fuel : Nat} {rs : List ResultVar} {todo : List AI} {s : St} {v : SV} {st : St} {p : Asm} (h : whole T O H LH fuel rs todo s = some (v, st, p)) (hp : p.holds) : resVal T st rs = some v ∧ ∃ todo', (todo' = [] ∨ todo' = [.fin]) ∧ ∀ m0, Reaches P m0 todo s todo' st := by
  unfold whole at h
  split at h
  · rename_i o ho
    split at h
    · rename_i ht
      split at h
      · rename_i v' hv
        simp only [Option.some.injEq, Prod.mk.injEq] at h
        obtain ⟨rfl, rfl, rfl⟩ := h
        exact ⟨hv, [], .inl rfl, fun m0 B N M w0 _ hR => arun_sound hT hO hm _ _ _ _ ho hp (by rw [ht]; exact hR)⟩
      · cases h
    · rename_i ht
      split at h
      · rename_i v' hv
        simp only [Option.some.injEq, Prod.mk.injEq] at h
        obtain ⟨rfl, rfl, rfl⟩ := h
        exact ⟨hv, [.fin], .inr rfl, fun m0 B N M w0 _ hR => arun_sound hT hO hm _ _ _ _ ho hp (by rw [ht]; exact hR)⟩
      · cases h
    · cases h
  · cases h

/-- A call whose run comes to a state, to the one who called. -/
theorem inl_calls (hT : TOK P T) {f : FuncId} {fn : Func} (hf : P.funcs[f]? = some fn) {c : Code} (hb : fn.body = some c) {args : List SV} {G : Nat → Option Blk} {base : Nat} {σ mu : List Nat} {v : SV} {st : St} {p : Asm} {res : Res} {mus : List Nat} (hmu : muOf σ args 0 mus = mu) (hreach : reach G 100 (idsA args) [] = some σ) (hchk : (args.all (SV.allB (refB G)) && (σ.all (blkB G) && Nat.ble args.length fn.ntmps)) = true)
    {todo' : List AI} (hfin : todo' = [] ∨ todo' = [.fin]) (hRe : Reaches P σ.length [.code c] (start (args.map (SV.ren fun id => idx id σ)) fn.ntmps (hpOf G (fun id => idx id σ) mu σ 0) σ.length []) todo' st) (hv : resVal T st fn.results.toList = some v)
    (hr : inlOut G base σ mu (hpOf G (fun id => idx id σ) mu σ 0) (some (v, st, p)) = some res) {ρ : Nat → Loc} {D : Nat → Prop} {N : Nat} {M : List Nat} {w : World} (hG : HR ρ D N M G w) (hin : ∀ s ∈ args, s.In D) (hfr : ∀ id, base ≤ id → id < base + res.new.length → ¬ D id) :
    Calls P f (args.map (SV.conc ρ)).toArray w fun e w' => ∃ v, e = .returned v ∧ ∃ ρ', Fits ρ D N M G base res w ρ' v w' := by
  simp only [Bool.and_eq_true, List.all_eq_true] at hchk
  obtain ⟨hrefA, hrefB, hlen⟩ := hchk
  unfold inlOut at hr
  simp only at hr
  split at hr
  · cases hr
  rename_i es hes
  split at hr
  rotate_left
  · cases hr
  rename_i hchk2
  simp only [Bool.and_eq_true, List.all_eq_true] at hchk2
  obtain ⟨hvX, hmX, heX⟩ := hchk2
  simp only [Option.some.injEq] at hr
  subst hr
  -- the names
  have hDcl : ∀ id b, G id = some b → ∀ i ∈ idsL b.c, D i := fun id b hb => segsIn_ids.1 (hG.blk id b hb).2.1
  obtain ⟨hσn, _, hσA, hσD, hσc⟩ := reach_spec hDcl _ _ _ _ hreach List.nodup_nil (by simp) (by simp) (fun id hid => by
    obtain ⟨a, haa, hid⟩ := mem_idsA.1 hid
    exact SV.ids_all.2 (SV.in_all.1 (hin a haa)) id hid)
  have hσget : ∀ i j id : Nat, σ[i]? = some id → σ[j]? = some id → i = j := fun i j id h1 h2 => (List.getElem?_inj (by
    rcases Nat.lt_or_ge i σ.length with h | h
    · exact h
    · rw [List.getElem?_eq_none h] at h1; cases h1) hσn).1 (h1.trans h2.symm)
  -- the places
  obtain ⟨ρc, hρc⟩ : ∃ ρc : Nat → Loc, ρc = fun i => match σ[i]? with
    | some id => match G id with
      | some b => if b.k = 0 then ⟨(ρ id).a, widths b.c⟩ else ρ id
      | none => ρ id
    | none => ⟨none, 0⟩ := ⟨_, rfl⟩
  have hca : ∀ i id, σ[i]? = some id → (ρc i).a = (ρ id).a := fun i id hi => by
    rw [hρc]
    simp only [hi]
    split
    · split <;> rfl
    · rfl
  have hcr : ∀ i id b, σ[i]? = some id → G id = some b → b.k ≠ 0 → ρc i = ρ id := fun i id b hi hb hk => by
    rw [hρc]
    simp only [hi, hb]
    rw [if_neg hk]
  have hlt : ∀ i id : Nat, σ[i]? = some id → i < σ.length := fun i id h => by
    rcases Nat.lt_or_ge i σ.length with h' | h'
    · exact h'
    · rw [List.getElem?_eq_none h'] at h; cases h
  have hSame : ∀ s : Seg, (∀ id, id ∈ s.ids → id ∈ σ) → refB G s = true → Same (fun id => idx id σ) ρ ρc s := fun s h1 h2 => by
    refine ⟨fun id hid => hca _ _ (idx_get (h1 id hid)), fun id o l a he => ?_⟩
    subst he
    unfold refB at h2
    split at h2
    · rename_i heq
      injection heq with e1
      subst e1
      split at h2
      · rename_i b hb
        have := Nat.le_of_ble_eq_true h2
        exact hcr _ _ b (idx_get (h1 _ (by simp [Seg.ids]))) hb (by omega)
      · cases h2
    · rename_i hno
      exact absurd rfl (hno _ _ _ _)
  have hAll : ∀ s ∈ args, s.All fun x => (∀ id, id ∈ x.ids → id ∈ σ) ∧ refB G x = true := fun s hs =>
    SV.All.and (SV.ids_all.1 fun id hid => hσA id (mem_idsA.2 ⟨s, hs, hid⟩)) (SV.allB_all.1 (hrefA s hs))
  have hargs : (args.map (SV.conc ρ)).toArray = ((args.map (SV.ren fun id => idx id σ)).map (SV.conc ρc)).toArray := by
    rw [List.map_map]
    congr 1
    refine List.map_congr_left fun s hs => ?_
    exact (SV.ren_conc ((hAll s hs).mono fun x hx => hSame x hx.1 hx.2)).symm
  have hG0 : HR ρc (· < σ.length) w.heap.size (mu.filterMap fun i => (ρc i).a.map (·.block)) (look (hpOf G (fun id => idx id σ) mu σ 0)) w := by
    refine ⟨Nat.le_refl _, fun i b hb => ?_, fun i b x hb hx => ?_, fun i b x hb hk hx => ?_, fun i j bi bj x y hi hj hij hk hx hy => ?_⟩
    · obtain ⟨j, id, b0, rfl, hid, hb0, rfl⟩ := look_hpOf _ _ hb
      rw [Nat.zero_add] at *
      have hidσ : id ∈ σ := List.mem_of_getElem? hid
      have hcl : ∀ s ∈ b0.c, ∀ i, i ∈ s.ids → i ∈ σ := fun s hs i hi => hσc id hidσ b0 hb0 i (mem_idsL.2 ⟨s, hs, hi⟩)
      have hrf : ∀ s ∈ b0.c, refB G s = true := by
        have := hrefB id hidσ
        unfold blkB at this
        rw [hb0] at this
        exact List.all_eq_true.1 this
      have hv : segsVals ρc (renL (fun id => idx id σ) b0.c) = segsVals ρ b0.c := renL_vals fun s hs => hSame s (hcl s hs) (hrf s hs)
      refine ⟨hlt j id hid, renL_in fun s hs i hi => idx_lt (hcl s hs i hi), ?_⟩
      have hok := (hG.blk id b0 hb0).2.2
      rcases kindOf_cases j b0.k mu with ⟨_, hk0, he⟩ | he
      · rw [he]
        obtain ⟨k, ty, c⟩ := b0
        simp only at hk0
        subst hk0
        obtain ⟨g, hg, hh⟩ := hok
        refine ⟨g, (hca j id hid).trans hg, ?_⟩
        rw [hv]; exact hh
      · rw [he]
        show (segsVals ρc _).length ≤ (ρc j).cap ∧ _
        rw [hv]
        by_cases hk : b0.k = 0
        · have e : ρc j = ⟨(ρ id).a, widths b0.c⟩ := by
            rw [hρc]; simp only [hid, hb0]; rw [if_pos hk]
          have hok' : BlkOK (fun i => if i = id then ⟨(ρ id).a, widths b0.c⟩ else ρ i) w id b0 → True := fun _ => trivial
          refine ⟨by rw [e, segsVals_len]; exact Nat.le_refl _, ?_⟩
          rw [hca j id hid]
          cases hs : segsVals ρ b0.c with
          | nil => exact .inl rfl
          | cons y l =>
            right
            obtain ⟨x, hx, _⟩ := hok.cells (j := 0) (u := y) (by rw [hs]; rfl)
            refine ⟨x, hx, fun j' u hj' => ?_⟩
            rw [← hs] at hj'
            obtain ⟨x', hx', hc'⟩ := hok.cells hj'
            rw [hx] at hx'
            injection hx' with hx'
            subst hx'
            exact hc'
        · rw [hcr j id b0 hid hb0 hk]
          exact hok.ro (.inr (by omega))
    · obtain ⟨j, id, b0, rfl, hid, hb0, rfl⟩ := look_hpOf _ _ hb
      rw [Nat.zero_add] at *
      rw [hca j id hid] at hx
      exact hG.lt id b0 x hb0 hx
    · obtain ⟨j, id, b0, rfl, hid, hb0, rfl⟩ := look_hpOf _ _ hb
      rw [Nat.zero_add] at *
      right
      rw [List.mem_filterMap]
      exact ⟨j, (kindOf_lt hk).1, by rw [hx]; rfl⟩
    · obtain ⟨i', id, b0, rfl, hid, hb0, rfl⟩ := look_hpOf _ _ hi
      obtain ⟨j', id', b1, rfl, hid', hb1, rfl⟩ := look_hpOf _ _ hj
      rw [Nat.zero_add] at *
      rw [hca _ _ hid] at hx
      rw [hca _ _ hid'] at hy
      refine hG.dist id id' b0 b1 x y hb0 hb1 (fun e => hij ?_) ?_ hx hy
      · subst e; rw [hσget _ _ _ hid hid']; omega
      · have := (kindOf_lt hk).2.1
        omega
  rw [hargs]
  refine calls_am hf hb (ρ := ρc) (M := mu.filterMap fun i => (ρc i).a.map (·.block)) (nx := σ.length) (hp := hpOf G (fun id => idx id σ) mu σ 0) (gl := []) rfl (fun s hs => ?_) (by simpa using Nat.le_of_ble_eq_true hlen) hG0 (lk := fun i => if i < σ.length then (ρc i).a else none) (fun x i h => ?_) ?_
  · obtain ⟨s0, hs0, rfl⟩ := List.mem_map.1 hs
    exact SV.ren_in ((hAll s0 hs0).mono fun x hx id hid => idx_lt (hx.1 id hid))
  · rcases h with ⟨_, _, h⟩ | h
    · cases h
    · by_cases hi : i < σ.length
      · simp only [if_pos hi] at h; exact ⟨h, hi⟩
      · simp only [if_neg hi] at h; cases h
  refine hRe _ _ _ _ (fun id x hx => ?_) (runs_end hT hfin hv fun ρ1 a1 w1 hrel => ?_)
  · by_cases hi : id < σ.length
    · exact hi
    · simp only [if_neg hi] at hx; cases hx
  have hHR := hrel.rel.hr
  have hK := hrel.rel.kept
  have hlk : ∀ id x, (if id < σ.length then (ρc id).a else none) = some x → (ρ1 id).a = some x := fun id x hx => (hrel.rel.globals x id (.inr hx)).1
  refine ⟨_, rfl, ?_⟩
  have hlk' : ∀ (i id : Nat) (x : Addr), σ[i]? = some id → (ρ id).a = some x → (ρ1 i).a = some x := fun i id x hi hx => by
    refine hlk i x ?_
    show (if i < σ.length then (ρc i).a else none) = some x
    rw [if_pos (hlt i id hi), hca i id hi]
    exact hx
  have hmuS : ∀ i ∈ mu, ∃ (id : Nat) (b0 b : Blk), σ[i]? = some id ∧ G id = some b0 ∧ b0.k = 0 ∧ look st.hp i = some b ∧ b.k = 0 := fun i hi => by
    have := hmX i hi
    unfold muB at this
    split at this
    · rename_i id b hid hb
      split at this
      · rename_i b0 hb0
        rw [Bool.and_eq_true, Bool.and_eq_true] at this
        exact ⟨id, b0, b, nth_some.1 hid, hb0, Nat.eq_of_beq_eq_true this.1, hb, Nat.eq_of_beq_eq_true this.2.1⟩
      · cases this
    · cases this
  have hesS : ∀ e ∈ es, σ.length ≤ e ∧ ∃ b, look st.hp e = some b ∧ b.k < 2 := fun e he => by
    have := heX e he
    unfold esB at this
    split at this
    · rename_i b hb
      rw [Bool.and_eq_true, Bool.and_eq_true] at this
      exact ⟨Nat.le_of_ble_eq_true this.1, b, hb, Nat.le_of_ble_eq_true this.2.1⟩
    · cases this
  have hesn := reachE_nodup _ _ _ _ hes List.nodup_nil
  obtain ⟨hn1, hn2⟩ := newOf_spec (hp := st.hp) (τ := ren2 σ es base) (es := es) fun e he => (hesS e he).2.imp fun _ h => h.1
  obtain ⟨hu1, hu2, hu3⟩ := updOf_spec (hp := st.hp) (τ := ren2 σ es base) hσget (mu := mu)
  refine inl_fits (G1 := look st.hp) (nx := st.nx) (σ := σ) (es := es) (mu := mu) hG (fun i id hi => hσD id (List.mem_of_getElem? hi)) hσget (fun id h1 h2 => hfr id h1 (by rw [hn1]; exact h2)) hHR hK hlk' (fun g hg => ?_) hmuS hesS (fun i j e h1 h2 => ?_) (τ := ren2 σ es base) (fun i id hi => ?_) (fun j e he => ?_) rfl hn1 hn2 hu1 hu2 (hu3 fun i hi => ?_) (fun s => expB σ.length es (aOf (hpOf G (fun id => idx id σ) mu σ 0)) s = true) (fun s hs => ?_) (SV.allB_all.1 hvX) (fun e he b hb s hs => ?_) (fun i hi b hb s hs => ?_)
  · obtain ⟨i, hi, hgi⟩ := List.mem_filterMap.1 hg
    obtain ⟨id, b0, b, hid, _⟩ := hmuS i hi
    rw [hca i id hid, Option.map_eq_some_iff] at hgi
    obtain ⟨x, hx, hxg⟩ := hgi
    exact ⟨i, id, x, hi, hid, hx, hxg⟩
  · exact (List.getElem?_inj (by
      rcases Nat.lt_or_ge i es.length with h | h
      · exact h
      · rw [List.getElem?_eq_none h] at h1; cases h1) hesn).1 (h1.trans h2.symm)
  · unfold ren2
    have : Nat.blt i σ.length = true := Nat.ble_eq_true_of_le (hlt i id hi)
    rw [this]
    simp only [nth_some.2 hi]
  · unfold ren2
    have he' := List.mem_of_getElem? he
    have : Nat.blt e σ.length = false := by
      have := (hesS e he').1
      rcases hh : Nat.blt e σ.length with _ | _
      · rfl
      · have : e + 1 ≤ σ.length := Nat.le_of_ble_eq_true hh
        omega
    rw [this]
    simp only
    have h1 := idx_get he'
    rw [(List.getElem?_inj (idx_lt he') hesn).1 (h1.trans he.symm)]
  · obtain ⟨id, b0, b, h1, _, _, h2, _⟩ := hmuS i hi
    exact ⟨id, b, h1, h2⟩
  · have key : ∀ id, (memB id es || (Nat.blt id σ.length && aOf (hpOf G (fun id => idx id σ) mu σ 0) id)) = true → id ∈ es ∨ ∃ (i : Nat) (x : Addr), σ[id]? = some i ∧ (ρ i).a = some x := fun id h => by
      rw [Bool.or_eq_true, Bool.and_eq_true] at h
      rcases h with h | ⟨_, h⟩
      · exact .inl (memB_mem.1 h)
      · right
        unfold aOf at h
        split at h
        · rename_i b hb
          obtain ⟨x, hx⟩ := (hG0.blk id b hb).2.2.hasA h
          obtain ⟨j, id', b0, rfl, hid, _⟩ := look_hpOf _ _ hb
          rw [Nat.zero_add] at *
          exact ⟨id', x, hid, by rw [← hca j id' hid]; exact hx⟩
        · cases h
    cases s with
    | v | num | arr | ap => exact ⟨fun id hid => by simp [Seg.ids] at hid, fun _ _ _ _ h => by cases h⟩
    | p id off => exact ⟨fun i hi => by simp [Seg.ids] at hi; subst hi; exact key _ hs, fun _ _ _ _ h => by cases h⟩
    | s id off len cap => exact ⟨fun i hi => by simp [Seg.ids] at hi; subst hi; exact key _ hs, fun _ _ _ _ h => by cases h⟩
    | r id off len ad => exact ⟨fun i hi => by simp [Seg.ids] at hi; subst hi; exact .inl (memB_mem.1 hs), fun _ _ _ _ h => by injection h with h; subst h; exact memB_mem.1 hs⟩
  · have := heX e he
    unfold esB at this
    rw [hb] at this
    simp only [Bool.and_eq_true, List.all_eq_true] at this
    exact this.2.2 s hs
  · have := hmX i hi
    unfold muB at this
    rw [hb] at this
    split at this
    · rename_i id b' hid hb'
      injection hb' with hb'
      subst hb'
      split at this
      · simp only [Bool.and_eq_true, List.all_eq_true] at this
        exact this.2.2 s hs
      · cases this
    · cases this
/-- A call that is run through is a contract. -/
theorem inl_ok (hT : TOK P T) (hO : OOK P O) (hm : P.follows .mixedOrders = true) {H : Nat → Nat → Hint} {LH : List (Nat × Nat)} {fuel : Nat} {f : FuncId} {fn : Func} (hf : P.funcs[f]? = some fn) (hname : (fn.name == "runtime.NumGoroutine") = false) (hbs : fn.body.isSome = true) (mus : List Nat) : EntOK P f (inl T O H LH fuel fn mus) := by
  refine ⟨⟨fn, hf, hname, hbs⟩, fun args G base res hr ha ρ D N M w hG hin hfr => ?_⟩
  unfold inl at hr
  split at hr
  rotate_left
  · cases hr
  rename_i c σ hb hreach
  split at hr
  rotate_left
  · cases hr
  rename_i hchk
  cases hw : whole T O H LH fuel fn.results.toList [.code c] (start (args.map (SV.ren fun id => idx id σ)) fn.ntmps (hpOf G (fun id => idx id σ) (muOf σ args 0 mus) σ 0) σ.length []) with
  | none =>
    rw [hw] at hr
    cases hr
  | some o =>
    obtain ⟨v, st, p⟩ := o
    rw [hw] at hr
    have hp : p = res.asm := by
      unfold inlOut at hr
      simp only at hr
      split at hr
      · cases hr
      · split at hr
        · simp only [Option.some.injEq] at hr
          rw [← hr]
        · cases hr
    obtain ⟨hv, todo', hfin, hRe⟩ := whole_reaches hT hO hm hw (hp ▸ ha)
    exact inl_calls hT hf hb rfl hreach hchk hfin (hRe _) hv hr hG hin hfr
end
end Go.Proofs.Ytkoackalpcmhaaa.Am
