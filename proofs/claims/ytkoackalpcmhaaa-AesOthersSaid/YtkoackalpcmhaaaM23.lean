/- The abstract machine: a call that the machine runs through itself. Conditions: none. -/
import Derived.Test.YtkoackalpcmhaaaM22
namespace Go.Proofs.Ytkoackalpcmhaaa.Am
set_option linter.unusedVariables false
set_option linter.unusedSimpArgs false
open Go Go.RowKit

def Seg.ren (f : Nat → Nat) : Seg → Seg
  | .v x => .v x
  | .num n => .num n
  | .arr k l => .arr k l
  | .ap k F n => .ap k F n
  | .p id off => .p (f id) off
  | .s id off len cap => .s (f id) off len cap
  | .r id off len ad => .r (f id) off len ad
def renL (f : Nat → Nat) : List Seg → List Seg
  | [] => []
  | x :: l => x.ren f :: renL f l
def AV.ren (f : Nat → Nat) : AV → AV
  | .one s => .one (s.ren f)
  | .agg l => .agg (renL f l)
def renT (f : Nat → Nat) : List AV → List AV
  | [] => []
  | x :: l => x.ren f :: renT f l
def SV.ren (f : Nat → Nat) : SV → SV
  | .av a => .av (a.ren f)
  | .tup l => .tup (renT f l)
def Seg.ids : Seg → List Nat
  | .p id _ => [id]
  | .s id _ _ _ => [id]
  | .r id _ _ _ => [id]
  | _ => []
def idsL : List Seg → List Nat
  | [] => []
  | x :: l => x.ids ++ idsL l
def idsT : List AV → List Nat
  | [] => []
  | x :: l => idsL x.segs ++ idsT l
def SV.ids : SV → List Nat
  | .av a => idsL a.segs
  | .tup l => idsT l
def memB (n : Nat) : List Nat → Bool
  | [] => false
  | x :: l => match Nat.beq x n with
    | true => true
    | false => memB n l
def idx (n : Nat) : List Nat → Nat
  | [] => 0
  | x :: l => match Nat.beq x n with
    | true => 0
    | false => idx n l + 1

theorem memB_mem {n : Nat} : ∀ {l : List Nat}, memB n l = true ↔ n ∈ l
  | [] => by simp [memB]
  | x :: l => by
    unfold memB
    split
    · rename_i h
      have := Nat.eq_of_beq_eq_true h
      subst this
      simp
    · rename_i h
      have hne : n ≠ x := fun e => by rw [e, Nat.beq_refl] at h; cases h
      rw [memB_mem]
      simp [hne]
theorem idx_get {n : Nat} : ∀ {l : List Nat}, n ∈ l → l[idx n l]? = some n
  | [], h => by cases h
  | x :: l, h => by
    unfold idx
    split
    · rename_i hx
      have := Nat.eq_of_beq_eq_true hx
      subst this
      rfl
    · rename_i hx
      have hne : n ≠ x := fun e => by rw [e, Nat.beq_refl] at hx; cases hx
      rw [List.getElem?_cons_succ]
      exact idx_get ((List.mem_cons.1 h).resolve_left hne)
theorem idx_lt {n : Nat} {l : List Nat} (h : n ∈ l) : idx n l < l.length := by
  have := idx_get h
  rcases Nat.lt_or_ge (idx n l) l.length with h | h
  · exact h
  · rw [List.getElem?_eq_none h] at this; cases this

/-- Renamed values are what they were, if their places are. -/
theorem Seg.ren_conc {f : Nat → Nat} {ρ ρ' : Nat → Loc} {s : Seg} (h : ∀ id, id ∈ s.ids → (ρ' (f id)).a = (ρ id).a) (hr : ∀ id o l a, s = .r id o l a → ρ' (f id) = ρ id) : (s.ren f).conc ρ' = s.conc ρ := by
  cases s with
  | v | num | arr | ap => rfl
  | p id off => simp [Seg.ren, Seg.conc, h id (by simp [Seg.ids])]
  | s id off len cap => simp [Seg.ren, Seg.conc, h id (by simp [Seg.ids])]
  | r id off len ad => simp [Seg.ren, Seg.conc, hr id off len ad rfl]
theorem Seg.ren_vals {f : Nat → Nat} {ρ ρ' : Nat → Loc} {s : Seg} (h : ∀ id, id ∈ s.ids → (ρ' (f id)).a = (ρ id).a) (hr : ∀ id o l a, s = .r id o l a → ρ' (f id) = ρ id) : (s.ren f).vals ρ' = s.vals ρ := by
  have := Seg.ren_conc h hr
  cases s <;> first | rfl | simpa [Seg.ren, Seg.vals] using this
/-- Are the places of a segment the same? -/
def Same (f : Nat → Nat) (ρ ρ' : Nat → Loc) (s : Seg) : Prop := (∀ id, id ∈ s.ids → (ρ' (f id)).a = (ρ id).a) ∧ ∀ id o l a, s = .r id o l a → ρ' (f id) = ρ id
theorem renL_vals {f : Nat → Nat} {ρ ρ' : Nat → Loc} : ∀ {l : List Seg}, (∀ s ∈ l, Same f ρ ρ' s) → segsVals ρ' (renL f l) = segsVals ρ l
  | [], _ => rfl
  | x :: l, h => by
    rw [renL, segsVals_cons, segsVals_cons, renL_vals fun s hs => h s (by simp [hs]), Seg.ren_vals (h x (by simp)).1 (h x (by simp)).2]
theorem AV.ren_conc {f : Nat → Nat} {ρ ρ' : Nat → Loc} {a : AV} (h : ∀ s ∈ a.segs, Same f ρ ρ' s) : (a.ren f).conc ρ' = a.conc ρ := by
  cases a with
  | one s => exact Seg.ren_conc (h s (by simp [AV.segs])).1 (h s (by simp [AV.segs])).2
  | agg l => simp only [AV.ren, AV.conc, renL_vals (l := l) h]
def SV.All (p : Seg → Prop) : SV → Prop
  | .av a => ∀ s ∈ a.segs, p s
  | .tup l => ∀ a ∈ l, ∀ s ∈ a.segs, p s
theorem renT_map (f : Nat → Nat) : ∀ l, renT f l = l.map (AV.ren f)
  | [] => rfl
  | x :: l => by rw [renT, renT_map]; rfl
theorem renL_map (f : Nat → Nat) : ∀ l, renL f l = l.map (Seg.ren f)
  | [] => rfl
  | x :: l => by rw [renL, renL_map]; rfl
theorem SV.ren_conc {f : Nat → Nat} {ρ ρ' : Nat → Loc} {s : SV} (h : s.All (Same f ρ ρ')) : (s.ren f).conc ρ' = s.conc ρ := by
  cases s with
  | av a => exact AV.ren_conc h
  | tup l =>
    simp only [SV.ren, SV.conc, renT_map, List.map_map]
    congr 2
    exact List.map_congr_left fun a ha => AV.ren_conc (h a ha)
theorem Seg.ren_in {f : Nat → Nat} {D : Nat → Prop} {s : Seg} (h : ∀ id, id ∈ s.ids → D (f id)) : (s.ren f).In D := by
  cases s <;> first | trivial | exact h _ (by simp [Seg.ids])
theorem segs_ren (f : Nat → Nat) (a : AV) : (a.ren f).segs = renL f a.segs := by cases a <;> rfl
theorem renL_in {f : Nat → Nat} {D : Nat → Prop} {l : List Seg} (h : ∀ s ∈ l, ∀ id, id ∈ s.ids → D (f id)) : segsIn D (renL f l) := by
  intro s hs
  rw [renL_map, List.mem_map] at hs
  obtain ⟨x, hx, rfl⟩ := hs
  exact Seg.ren_in (h x hx)
theorem SV.ren_in {f : Nat → Nat} {D : Nat → Prop} {s : SV} (h : s.All fun x => ∀ id, id ∈ x.ids → D (f id)) : (s.ren f).In D := by
  cases s with
  | av a =>
    show segsIn D (a.ren f).segs
    rw [segs_ren]
    exact renL_in h
  | tup l =>
    intro a ha
    rw [renT_map, List.mem_map] at ha
    obtain ⟨x, hx, rfl⟩ := ha
    show segsIn D (x.ren f).segs
    rw [segs_ren]
    exact renL_in (h x hx)

section
variable {P : Program} {ρ ρ1 : Nat → Loc} {D : Nat → Prop} {N : Nat} {M Mc : List Nat} {G G1 : Nat → Option Blk} {base : Nat} {w w1 : World} {σ es mu : List Nat} {nx : Nat}

/-- What was run through is a call's end, to the one who called. -/
theorem inl_fits (hG : HR ρ D N M G w) (hσD : ∀ i id : Nat, σ[i]? = some id → D id) (hσn : ∀ i j id : Nat, σ[i]? = some id → σ[j]? = some id → i = j) (hfr : ∀ id, base ≤ id → id < base + es.length → ¬ D id)
    (h1 : HR ρ1 (· < nx) w.heap.size Mc G1 w1) (hk : Kept w.heap.size Mc w w1) (hlk : ∀ (i id : Nat) (x : Addr), σ[i]? = some id → (ρ id).a = some x → (ρ1 i).a = some x)
    (hMc : ∀ g ∈ Mc, ∃ (i id : Nat) (x : Addr), i ∈ mu ∧ σ[i]? = some id ∧ (ρ id).a = some x ∧ x.block = g)
    (hmu : ∀ i ∈ mu, ∃ (id : Nat) (b0 b : Blk), σ[i]? = some id ∧ G id = some b0 ∧ b0.k = 0 ∧ G1 i = some b ∧ b.k = 0)
    (hes : ∀ e ∈ es, σ.length ≤ e ∧ ∃ b, G1 e = some b ∧ b.k < 2) (hesn : ∀ i j e : Nat, es[i]? = some e → es[j]? = some e → i = j)
    {τ : Nat → Nat} (hτ1 : ∀ i id : Nat, σ[i]? = some id → τ i = id) (hτ2 : ∀ j e : Nat, es[j]? = some e → τ e = base + j)
    {r : Res} {v : SV} (hval : r.val = v.ren τ) (hnl : r.new.length = es.length) (hnew : ∀ (j e : Nat) (b : Blk), es[j]? = some e → G1 e = some b → r.new[j]? = some ⟨b.k, b.ty, renL τ b.c⟩)
    (hupd : ∀ (i id : Nat) (b : Blk), i ∈ mu → σ[i]? = some id → G1 i = some b → look r.upd id = some (some ⟨0, b.ty, renL τ b.c⟩)) (hupn : ∀ id : Nat, (∀ i : Nat, i ∈ mu → σ[i]? ≠ some id) → look r.upd id = none) (hup0 : r.upd = [] → mu = [])
    (X : Seg → Prop) (hX : ∀ s, X s → (∀ id, id ∈ s.ids → id ∈ es ∨ ∃ (i : Nat) (x : Addr), σ[id]? = some i ∧ (ρ i).a = some x) ∧ ∀ id o l a, s = .r id o l a → id ∈ es)
    (hXv : v.All X) (hXe : ∀ e ∈ es, ∀ b, G1 e = some b → ∀ s ∈ b.c, X s) (hXm : ∀ i ∈ mu, ∀ b, G1 i = some b → ∀ s ∈ b.c, X s) :
    ∃ ρ', Fits ρ D N M G base r w ρ' (v.conc ρ1) w1 := by
  obtain ⟨ρ', hρ'⟩ : ∃ ρ' : Nat → Loc, (fun id : Nat => if base ≤ id ∧ id < base + es.length then ρ1 (es.getD (id - base) 0) else ρ id) = ρ' := ⟨_, rfl⟩
  refine ⟨ρ', ?_⟩
  have hag : ∀ id, D id → ρ' id = ρ id := fun id hid => by
    rw [← hρ']
    exact if_neg fun ⟨h1, h2⟩ => hfr id h1 h2 hid
  have hne : ∀ j e : Nat, es[j]? = some e → ρ' (base + j) = ρ1 e := fun j e he => by
    have hj : j < es.length := by
      rcases Nat.lt_or_ge j es.length with h | h
      · exact h
      · rw [List.getElem?_eq_none h] at he; cases he
    rw [← hρ']
    simp only
    rw [if_pos ⟨by omega, by omega⟩, Nat.add_sub_cancel_left, List.getD_eq_getElem?_getD, he]
    rfl
  have hmem : ∀ e, e ∈ es → ∃ j : Nat, es[j]? = some e ∧ j < es.length := fun e he => by
    obtain ⟨j, hj, rfl⟩ := List.getElem_of_mem he
    exact ⟨j, List.getElem?_eq_getElem hj, hj⟩
  have hSame : ∀ s, X s → Same τ ρ1 ρ' s := fun s hs => by
    obtain ⟨ha, hb⟩ := hX s hs
    refine ⟨fun id hid => ?_, fun id o l a he => ?_⟩
    · rcases ha id hid with h | ⟨i, x, hi, hx⟩
      · obtain ⟨j, hj, _⟩ := hmem id h
        rw [hτ2 j id hj, hne j id hj]
      · rw [hτ1 id i hi, hag i (hσD id i hi), hx, hlk id i x hi hx]
    · obtain ⟨j, hj, _⟩ := hmem id (hb id o l a he)
      rw [hτ2 j id hj, hne j id hj]
  have hDs : ∀ s, X s → ∀ id, id ∈ s.ids → Dn D base es.length (τ id) := fun s hs id hid => by
    rcases (hX s hs).1 id hid with h | ⟨i, x, hi, hx⟩
    · obtain ⟨j, hj, hjl⟩ := hmem id h
      rw [hτ2 j id hj]
      exact .inr ⟨by omega, by omega⟩
    · rw [hτ1 id i hi]
      exact .inl (hσD id i hi)
  -- what is new is not of the old
  have hfresh : ∀ e b x, e ∈ es → G1 e = some b → (ρ1 e).a = some x → w.heap.size ≤ x.block := fun e b x he hb hx => by
    obtain ⟨hel, b', hb', hk'⟩ := hes e he
    rw [hb] at hb'
    injection hb' with hb'
    subst hb'
    rcases h1.own e b x hb hk' hx with h | h
    · exact h
    · obtain ⟨i, id, y, hi, hid, hy, he'⟩ := hMc _ h
      obtain ⟨id', b0, bb, hid', hG0, hk0, hb1, hk1⟩ := hmu i hi
      have hil : i < σ.length := by
        rcases Nat.lt_or_ge i σ.length with h | h
        · exact h
        · rw [List.getElem?_eq_none h] at hid; cases hid
      exact absurd he'.symm (h1.dist e i b bb x y hb hb1 (by omega) hk' hx (hlk i id y hid hy))
  have happl_m : ∀ (i id : Nat) (b : Blk), i ∈ mu → σ[i]? = some id → G1 i = some b → appl G base r id = some ⟨0, b.ty, renL τ b.c⟩ := fun i id b hi hid hb => by
    unfold appl
    rw [hupd i id b hi hid hb]
  have hnotm : ∀ id : Nat, base ≤ id → id < base + es.length → ∀ i : Nat, i ∈ mu → σ[i]? ≠ some id := fun id h1 h2 i _ hi => hfr id h1 h2 (hσD i id hi)
  have happl_n : ∀ (j e : Nat) (b : Blk), es[j]? = some e → G1 e = some b → appl G base r (base + j) = some ⟨b.k, b.ty, renL τ b.c⟩ := fun j e b he hb => by
    have hj : j < es.length := by
      rcases Nat.lt_or_ge j es.length with h | h
      · exact h
      · rw [List.getElem?_eq_none h] at he; cases he
    unfold appl
    rw [hupn _ (hnotm _ (by omega) (by omega)), hnl]
    simp only
    rw [if_pos ⟨by omega, by omega⟩, Nat.add_sub_cancel_left, hnew j e b he hb]
  have happl_o : ∀ id : Nat, (∀ i : Nat, i ∈ mu → σ[i]? ≠ some id) → ¬ (base ≤ id ∧ id < base + es.length) → appl G base r id = G id := fun id h1 h2 => by
    unfold appl
    rw [hupn id h1, hnl]
    simp only
    rw [if_neg h2]
  have hstay : ∀ (id : Nat) (b : Blk) (x : Addr), G id = some b → (∀ i : Nat, i ∈ mu → σ[i]? ≠ some id) → (ρ id).a = some x → w1.heap[x.block]? = w.heap[x.block]? := fun id b x hb hn hx => by
    refine hk.block _ (hG.lt id b x hb hx) fun hm => ?_
    obtain ⟨i, id', y, hi, hid, hy, he⟩ := hMc _ hm
    obtain ⟨id2, b0, bb, hid2, hG0, hk0, _⟩ := hmu i hi
    rw [hid] at hid2
    injection hid2 with hid2
    subst hid2
    exact absurd he (hG.dist id' id b0 b y x hG0 hb (fun e => hn i hi (e ▸ hid)) (by omega) hy hx)
  have hcase : ∀ (id : Nat) (b : Blk), appl G base r id = some b → ((∃ (i : Nat) (b' : Blk), i ∈ mu ∧ σ[i]? = some id ∧ G1 i = some b' ∧ b = ⟨0, b'.ty, renL τ b'.c⟩ ∧ b'.k = 0) ∨ (∃ (j e : Nat) (b' : Blk), es[j]? = some e ∧ id = base + j ∧ G1 e = some b' ∧ b = ⟨b'.k, b'.ty, renL τ b'.c⟩) ∨ (G id = some b ∧ (∀ i : Nat, i ∈ mu → σ[i]? ≠ some id) ∧ ¬ (base ≤ id ∧ id < base + es.length))) := fun id b hb => by
    by_cases hm : ∃ i : Nat, i ∈ mu ∧ σ[i]? = some id
    · obtain ⟨i, hi, hid⟩ := hm
      obtain ⟨id2, b0, bb, hid2, hG0, hk0, hb1, hk1⟩ := hmu i hi
      rw [happl_m i id bb hi hid hb1] at hb
      injection hb with hb
      exact .inl ⟨i, bb, hi, hid, hb1, hb.symm, hk1⟩
    · have hm' : ∀ i : Nat, i ∈ mu → σ[i]? ≠ some id := fun i hi he => hm ⟨i, hi, he⟩
      by_cases hr : base ≤ id ∧ id < base + es.length
      · have hj : id - base < es.length := by omega
        obtain ⟨_, b', hb', _⟩ := hes es[id - base] (List.getElem_mem hj)
        have e1 : es[id - base]? = some es[id - base] := List.getElem?_eq_getElem hj
        have := happl_n _ _ b' e1 hb'
        rw [show base + (id - base) = id by omega, hb] at this
        injection this with this
        exact .inr (.inl ⟨_, _, b', e1, by omega, hb', this⟩)
      · rw [happl_o id hm' hr] at hb
        exact .inr (.inr ⟨hb, hm', hr⟩)
  -- where a block lies
  have hplace_m : ∀ i id : Nat, i ∈ mu → σ[i]? = some id → ∃ b0 x, G id = some b0 ∧ b0.k = 0 ∧ (ρ id).a = some x ∧ (ρ' id).a = some x ∧ (ρ1 i).a = some x := fun i id hi hid => by
    obtain ⟨id2, b0, bb, hid2, hG0, hk0, hb1, hk1⟩ := hmu i hi
    rw [hid] at hid2
    injection hid2 with hid2
    subst hid2
    obtain ⟨x, hx⟩ := (hG.blk id b0 hG0).2.2.hasA (by simp [hasA, hk0])
    exact ⟨b0, x, hG0, hk0, hx, by rw [hag id (hσD i id hid)]; exact hx, hlk i id x hid hx⟩
  have hHR : HR ρ' (Dn D base r.new.length) N M (appl G base r) w1 := by
    rw [hnl]
    refine hG.step (U := fun id => (∃ i : Nat, i ∈ mu ∧ σ[i]? = some id) ∨ (base ≤ id ∧ id < base + es.length)) hag (fun id h => .inl h) hk.size (fun id b hb hU => ?_) (fun id b x hb hU hx => ?_) (fun id b hb hU => ?_) (fun id b x hb hU hx => ?_) (fun id b x hb hU hkb hx => ?_) (fun i j bi bj x y hi hj hij hU hkb hx hy => ?_)
    · rw [not_or] at hU
      rw [happl_o id (fun i hi he => hU.1 ⟨i, hi, he⟩) hU.2] at hb
      exact hb
    · rw [not_or] at hU
      rw [happl_o id (fun i hi he => hU.1 ⟨i, hi, he⟩) hU.2] at hb
      exact hstay id b x hb (fun i hi he => hU.1 ⟨i, hi, he⟩) hx
    · rcases hcase id b hb with ⟨i, b', hi, hid, hb', rfl, hk'⟩ | ⟨j, e, b', he, rfl, hb', rfl⟩ | ⟨_, h2, h3⟩
      · refine ⟨.inl (hσD i id hid), renL_in fun s hs => hDs s (hXm i hi b' hb' s hs), ?_⟩
        obtain ⟨b0, x, hG0, hk0, hx, hx', hx1⟩ := hplace_m i id hi hid
        have h3 := (h1.blk i b' hb').2.2
        obtain ⟨k, ty, c⟩ := b'
        simp only at hk'
        subst hk'
        obtain ⟨g, hg, hh⟩ := h3
        rw [hx1] at hg
        refine ⟨g, hx'.trans hg, ?_⟩
        rw [renL_vals fun s hs => hSame s (hXm i hi _ hb' s hs)]
        exact hh
      · have hj : j < es.length := by
          rcases Nat.lt_or_ge j es.length with h | h
          · exact h
          · rw [List.getElem?_eq_none h] at he; cases he
        have hmem' : e ∈ es := List.mem_of_getElem? he
        refine ⟨.inr ⟨by omega, by omega⟩, renL_in fun s hs => hDs s (hXe e hmem' b' hb' s hs), ?_⟩
        have h3 := (h1.blk e b' hb').2.2
        have e1 := renL_vals fun s hs => hSame s (hXe e hmem' b' hb' s hs)
        have e2 := hne j e he
        unfold BlkOK at h3 ⊢
        rw [e1, e2]
        exact h3
      · exact absurd hU fun hU => hU.elim (fun ⟨i, hi, he⟩ => h2 i hi he) h3
    · rcases hcase id b hb with ⟨i, b', hi, hid, hb', rfl, hk'⟩ | ⟨j, e, b', he, rfl, hb', rfl⟩ | ⟨_, h2, h3⟩
      · obtain ⟨b0, y, hG0, hk0, hy, hy', hy1⟩ := hplace_m i id hi hid
        rw [hy'] at hx
        injection hx with hx
        subst hx
        exact h1.lt i b' _ hb' hy1
      · rw [hne j e he] at hx
        exact h1.lt e b' x hb' hx
      · exact absurd hU fun hU => hU.elim (fun ⟨i, hi, he⟩ => h2 i hi he) h3
    · rcases hcase id b hb with ⟨i, b', hi, hid, hb', rfl, hk'⟩ | ⟨j, e, b', he, rfl, hb', rfl⟩ | ⟨_, h2, h3⟩
      · obtain ⟨b0, y, hG0, hk0, hy, hy', hy1⟩ := hplace_m i id hi hid
        rw [hy'] at hx
        injection hx with hx
        subst hx
        exact hG.own id b0 _ hG0 (by omega) hy
      · rw [hne j e he] at hx
        exact .inl (Nat.le_trans hG.size (hfresh e b' x (List.mem_of_getElem? he) hb' hx))
      · exact absurd hU fun hU => hU.elim (fun ⟨i, hi, he⟩ => h2 i hi he) h3
    · have hne' : ∀ j e : Nat, es[j]? = some e → e ∈ es := fun j e h => List.mem_of_getElem? h
      rcases hcase i bi hi with ⟨i1, b1, hi1, hid1, hb1, rfl, hk1⟩ | ⟨j1, e1, b1, he1, rfl, hb1, rfl⟩ | ⟨hg1, hn1, hr1⟩ <;> rcases hcase j bj hj with ⟨i2, b2, hi2, hid2, hb2, rfl, hk2⟩ | ⟨j2, e2, b2, he2, rfl, hb2, rfl⟩ | ⟨hg2, hn2, hr2⟩
      · obtain ⟨c1, y1, hc1, hck1, hy1, hy1', hy11⟩ := hplace_m i1 i hi1 hid1
        obtain ⟨c2, y2, hc2, hck2, hy2, hy2', hy21⟩ := hplace_m i2 j hi2 hid2
        rw [hy1'] at hx; injection hx with hx; subst hx
        rw [hy2'] at hy; injection hy with hy; subst hy
        exact hG.dist i j c1 c2 _ _ hc1 hc2 hij (by omega) hy1 hy2
      · obtain ⟨c1, y1, hc1, hck1, hy1, hy1', hy11⟩ := hplace_m i1 i hi1 hid1
        rw [hy1'] at hx; injection hx with hx; subst hx
        rw [hne j2 e2 he2] at hy
        have := hfresh e2 b2 y (hne' _ _ he2) hb2 hy
        have := hG.lt i c1 _ hc1 hy1
        omega
      · obtain ⟨c1, y1, hc1, hck1, hy1, hy1', hy11⟩ := hplace_m i1 i hi1 hid1
        rw [hy1'] at hx; injection hx with hx; subst hx
        rw [hag j (hG.blk j bj hg2).1] at hy
        exact hG.dist i j c1 bj _ _ hc1 hg2 hij (by omega) hy1 hy
      · obtain ⟨c2, y2, hc2, hck2, hy2, hy2', hy21⟩ := hplace_m i2 j hi2 hid2
        rw [hy2'] at hy; injection hy with hy; subst hy
        rw [hne j1 e1 he1] at hx
        have := hfresh e1 b1 x (hne' _ _ he1) hb1 hx
        have := hG.lt j c2 _ hc2 hy2
        omega
      · rw [hne j1 e1 he1] at hx
        rw [hne j2 e2 he2] at hy
        refine h1.dist e1 e2 b1 b2 x y hb1 hb2 (fun e => hij ?_) hkb hx hy
        rw [hesn j1 j2 e1 he1 (e ▸ he2)]
      · rw [hne j1 e1 he1] at hx
        rw [hag j (hG.blk j bj hg2).1] at hy
        have := hfresh e1 b1 x (hne' _ _ he1) hb1 hx
        have := hG.lt j bj y hg2 hy
        omega
      · obtain ⟨c2, y2, hc2, hck2, hy2, hy2', hy21⟩ := hplace_m i2 j hi2 hid2
        rw [hy2'] at hy; injection hy with hy; subst hy
        rw [hag i (hG.blk i bi hg1).1] at hx
        exact hG.dist i j bi c2 _ _ hg1 hc2 hij hkb hx hy2
      · rw [hne j2 e2 he2] at hy
        rw [hag i (hG.blk i bi hg1).1] at hx
        have := hfresh e2 b2 y (hne' _ _ he2) hb2 hy
        have := hG.lt i bi x hg1 hx
        omega
      · exact absurd hU fun hU => hU.elim (fun hU => hU.elim (fun ⟨i, hi, he⟩ => hn1 i hi he) hr1) (fun hU => hU.elim (fun ⟨i, hi, he⟩ => hn2 i hi he) hr2)
  refine ⟨hag, ?_, hHR, ⟨hk.os, hk.tape, hk.output, hk.size, fun g hg hgM => ?_⟩, fun hu => ?_⟩
  · rw [hval]
    refine (SV.ren_conc ?_).symm
    revert hXv
    cases v with
    | av a => exact fun h s hs => hSame s (h s hs)
    | tup l => exact fun h a ha s hs => hSame s (h a ha s hs)
  · refine hk.block g (Nat.lt_of_lt_of_le hg hG.size) fun hm => ?_
    obtain ⟨i, id, x, hi, hid, hx, rfl⟩ := hMc _ hm
    obtain ⟨b0, y, hG0, hk0, hy, _, _⟩ := hplace_m i id hi hid
    rcases hG.own id b0 x hG0 (by omega) hx with h | h
    · omega
    · exact hgM h
  · have hm0 := hup0 hu
    refine ⟨?_, fun j b x hj hx => ?_⟩
    · refine Kept.below ⟨hk.os, hk.tape, hk.output, hk.size, fun g hg _ => hk.block g hg fun hm => ?_⟩
      obtain ⟨i, id, x, hi, _⟩ := hMc _ hm
      rw [hm0] at hi
      cases hi
    · have hjl : j < es.length := by
        rw [← hnl]
        rcases Nat.lt_or_ge j r.new.length with h | h
        · exact h
        · rw [List.getElem?_eq_none h] at hj; cases hj
      have e1 : es[j]? = some es[j] := List.getElem?_eq_getElem hjl
      obtain ⟨_, b', hb', _⟩ := hes es[j] (List.getElem_mem hjl)
      rw [hne j _ e1] at hx
      exact hfresh _ b' x (List.getElem_mem hjl) hb' hx
end
end Go.Proofs.Ytkoackalpcmhaaa.Am
