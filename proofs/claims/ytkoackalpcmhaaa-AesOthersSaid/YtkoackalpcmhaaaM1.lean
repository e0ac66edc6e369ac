/- An abstract machine for walks: values, blocks, worlds as it knows them, and what they say of the program's own. Conditions: none. -/
import Derived.Test.YtkoackalpcmhaaaAid
import Derived.LoopN
import Derived.Laws.CopyRow
namespace Go.Proofs.Ytkoackalpcmhaaa.Am
set_option linter.unusedVariables false
set_option linter.unusedSimpArgs false
open Go Go.RowKit

/-- word j of a number -/
def word (n j : Nat) : Int := ((n / 18446744073709551616 ^ j % 18446744073709551616 : Nat) : Int)
def words (n : Nat) : List Int := [word n 0, word n 1, word n 2, word n 3]

/-- One cell or more: a value as it is; a number of four words; an array of numbers; one that is a function's value; a pointer into a block; a slice of a block with a capacity of its own; a slice of a row (the capacity is the row's). -/
inductive Seg where
  | v (x : Value)
  | num (n : Nat)
  | arr (k : IntKind) (l : List Int)
  | ap (k : IntKind) (F : Nat → List Int) (n : Nat)
  | p (id off : Nat)
  | s (id off len cap : Nat)
  | r (id off len ad : Nat)
inductive AV where
  | one (s : Seg)
  | agg (l : List Seg)
inductive SV where
  | av (a : AV)
  | tup (l : List AV)

/-- Where a block lies, and how much room there is. -/
structure Loc where
  a : Option Addr
  cap : Nat

def radr (c : Loc) (off ad : Nat) : Option Addr := c.a.map (·.add (if c.cap = off then ad else off))
def Seg.conc (ρ : Nat → Loc) : Seg → Value
  | .v x => x
  | .num n => .agg ((words n).map (Value.int .u64)).toArray
  | .arr k l => .agg (l.map (Value.int k)).toArray
  | .ap k F n => .agg ((F n).map (Value.int k)).toArray
  | .p id off => .pointer ((ρ id).a.map (·.add off))
  | .s id off len cap => .slice ((ρ id).a.map (·.add off)) len cap
  | .r id off len ad => .slice (radr (ρ id) off ad) len ((ρ id).cap - off)
def Seg.vals (ρ : Nat → Loc) : Seg → List Value
  | .num n => (words n).map (Value.int .u64)
  | .arr k l => l.map (Value.int k)
  | .ap k F n => (F n).map (Value.int k)
  | x => [x.conc ρ]
def segsVals (ρ : Nat → Loc) (l : List Seg) : List Value := l.flatMap (Seg.vals ρ)
def AV.segs : AV → List Seg
  | .one s => [s]
  | .agg l => l
def AV.conc (ρ : Nat → Loc) : AV → Value
  | .one s => s.conc ρ
  | .agg l => .agg (segsVals ρ l).toArray
def SV.conc (ρ : Nat → Loc) : SV → Value
  | .av a => a.conc ρ
  | .tup l => .tuple (l.map (AV.conc ρ)).toArray

/-- Is a value one cell? -/
def cellB : Value → Bool
  | .agg _ => false
  | .tuple _ => false
  | _ => true
def Seg.ok : Seg → Bool
  | .v x => cellB x
  | _ => true
def segsOk (l : List Seg) : Bool := l.all Seg.ok

/-- A block: kind 0: the call's own, whole; 1: a row of the call's own that may grow; 2: to be read. -/
structure Blk where
  k : Nat
  ty : TypeId
  c : List Seg

def BlkOK (ρ : Nat → Loc) (w : World) (id : Nat) (b : Blk) : Prop :=
  match b.k with
  | 0 => ∃ g, (ρ id).a = some ⟨g, 0, none⟩ ∧ w.heap[g]? = some (.cells (segsVals ρ b.c).toArray b.ty (0, 0))
  | 1 => w.ownsRow 0 b.ty 1 (.slice (ρ id).a (segsVals ρ b.c).length (ρ id).cap) (segsVals ρ b.c).length (segsVals ρ b.c)
  | _ => (segsVals ρ b.c).length ≤ (ρ id).cap ∧ (segsVals ρ b.c = [] ∨ ∃ x, (ρ id).a = some x ∧ ∀ j u, (segsVals ρ b.c)[j]? = some u → w.cell? (x.add j) = some u)

def Seg.In (D : Nat → Prop) : Seg → Prop
  | .p id _ => D id
  | .s id _ _ _ => D id
  | .r id _ _ _ => D id
  | _ => True
def segsIn (D : Nat → Prop) (l : List Seg) : Prop := ∀ s ∈ l, s.In D
def AV.In (D : Nat → Prop) (a : AV) : Prop := segsIn D a.segs
def SV.In (D : Nat → Prop) : SV → Prop
  | .av a => a.In D
  | .tup l => ∀ a ∈ l, a.In D

theorem Seg.conc_congr {ρ ρ' : Nat → Loc} {D : Nat → Prop} (h : ∀ id, D id → ρ' id = ρ id) : ∀ {s : Seg}, s.In D → s.conc ρ' = s.conc ρ
  | .v _, _ | .num _, _ | .arr _ _, _ | .ap _ _ _, _ => rfl
  | .p id _, hs | .s id _ _ _, hs | .r id _ _ _, hs => by
    have := h id hs
    simp [Seg.conc, this]
theorem Seg.vals_congr {ρ ρ' : Nat → Loc} {D : Nat → Prop} (h : ∀ id, D id → ρ' id = ρ id) {s : Seg} (hs : s.In D) : s.vals ρ' = s.vals ρ := by
  have := Seg.conc_congr h hs
  cases s <;> simp [Seg.vals, this]
theorem segsVals_congr {ρ ρ' : Nat → Loc} {D : Nat → Prop} (h : ∀ id, D id → ρ' id = ρ id) {l : List Seg} (hs : segsIn D l) : segsVals ρ' l = segsVals ρ l := by
  induction l with
  | nil => rfl
  | cons x l ih =>
    simp only [segsVals, List.flatMap_cons] at ih ⊢
    rw [Seg.vals_congr h (hs x (by simp)), ih fun s hs' => hs s (by simp [hs'])]
theorem AV.conc_congr {ρ ρ' : Nat → Loc} {D : Nat → Prop} (h : ∀ id, D id → ρ' id = ρ id) {a : AV} (hs : a.In D) : a.conc ρ' = a.conc ρ := by
  cases a with
  | one s => exact Seg.conc_congr h (hs s (by simp [AV.segs]))
  | agg l => simp only [AV.conc, segsVals_congr h (show segsIn D l from hs)]
theorem SV.conc_congr {ρ ρ' : Nat → Loc} {D : Nat → Prop} (h : ∀ id, D id → ρ' id = ρ id) {a : SV} (hs : a.In D) : a.conc ρ' = a.conc ρ := by
  cases a with
  | av a => exact AV.conc_congr h hs
  | tup l =>
    simp only [SV.conc]
    congr 2
    exact List.map_congr_left fun a ha => AV.conc_congr h (hs a ha)

theorem Seg.In.mono {D D' : Nat → Prop} (h : ∀ id, D id → D' id) : ∀ {s : Seg}, s.In D → s.In D'
  | .v _, _ | .num _, _ | .arr _ _, _ | .ap _ _ _, _ => trivial
  | .p id _, hs | .s id _ _ _, hs | .r id _ _ _, hs => h id hs
theorem segsIn.mono {D D' : Nat → Prop} (h : ∀ id, D id → D' id) {l : List Seg} (hs : segsIn D l) : segsIn D' l := fun s hm => (hs s hm).mono h
theorem AV.In.mono {D D' : Nat → Prop} (h : ∀ id, D id → D' id) {a : AV} (hs : a.In D) : a.In D' := segsIn.mono h hs
theorem SV.In.mono {D D' : Nat → Prop} (h : ∀ id, D id → D' id) {a : SV} (hs : a.In D) : a.In D' := by
  cases a with
  | av a => exact AV.In.mono h hs
  | tup l => exact fun a ha => (hs a ha).mono h

theorem BlkOK.congr {ρ ρ' : Nat → Loc} {D : Nat → Prop} (h : ∀ id, D id → ρ' id = ρ id) {w : World} {id : Nat} {b : Blk} (hid : D id) (hs : segsIn D b.c) (hb : BlkOK ρ w id b) : BlkOK ρ' w id b := by
  unfold BlkOK at *
  rw [segsVals_congr h hs, h id hid]
  exact hb

/-- What has become of the world: below N, but for blocks of M, it is as it was. -/
structure Kept (N : Nat) (M : List Nat) (w w' : World) : Prop where
  os : w'.os = w.os
  tape : w'.tape = w.tape
  output : w'.output = w.output
  size : w.heap.size ≤ w'.heap.size
  block : ∀ k, k < N → k ∉ M → w'.heap[k]? = w.heap[k]?
theorem Kept.refl (N : Nat) (M : List Nat) (w : World) : Kept N M w w := ⟨rfl, rfl, rfl, Nat.le_refl _, fun _ _ _ => rfl⟩
theorem Kept.trans {N : Nat} {M : List Nat} {a b c : World} (h : Kept N M a b) (k : Kept N M b c) : Kept N M a c :=
  ⟨k.os.trans h.os, k.tape.trans h.tape, k.output.trans h.output, Nat.le_trans h.size k.size, fun i hi hm => (k.block i hi hm).trans (h.block i hi hm)⟩
theorem Kept.below {N : Nat} {w w' : World} (h : Kept N [] w w') : Below N w w' := ⟨h.os, h.tape, h.output, h.size, fun k hk => h.block k hk (by simp)⟩
theorem Kept.of_below {N : Nat} {M : List Nat} {w w' : World} (h : Below N w w') : Kept N M w w' := ⟨h.os, h.tape, h.output, h.size, fun k hk _ => h.block k hk⟩
theorem Kept.mono {N N' : Nat} {M M' : List Nat} {w w' : World} (h : Kept N M w w') (hN : N' ≤ N) (hM : ∀ x, x ∈ M → x ∈ M') : Kept N' M' w w' :=
  ⟨h.os, h.tape, h.output, h.size, fun k hk hm => h.block k (by omega) fun hx => hm (hM k hx)⟩

/-- What is known of the blocks. -/
structure HR (ρ : Nat → Loc) (D : Nat → Prop) (N : Nat) (M : List Nat) (G : Nat → Option Blk) (w : World) : Prop where
  size : N ≤ w.heap.size
  blk : ∀ id b, G id = some b → D id ∧ segsIn D b.c ∧ BlkOK ρ w id b
  lt : ∀ id b x, G id = some b → (ρ id).a = some x → x.block < w.heap.size
  own : ∀ id b x, G id = some b → b.k < 2 → (ρ id).a = some x → N ≤ x.block ∨ x.block ∈ M
  dist : ∀ i j bi bj x y, G i = some bi → G j = some bj → i ≠ j → bi.k < 2 → (ρ i).a = some x → (ρ j).a = some y → x.block ≠ y.block

theorem HR.weaken {ρ : Nat → Loc} {D : Nat → Prop} {N : Nat} {M : List Nat} {G G' : Nat → Option Blk} {w : World} (h : HR ρ D N M G w) (hG : ∀ id b, G' id = some b → G id = some b) : HR ρ D N M G' w :=
  ⟨h.size, fun id b hb => h.blk id b (hG id b hb), fun id b x hb => h.lt id b x (hG id b hb), fun id b x hb => h.own id b x (hG id b hb), fun i j bi bj x y hi hj => h.dist i j bi bj x y (hG i bi hi) (hG j bj hj)⟩

/-- A block that is known stays as it was while other blocks change. -/
theorem BlkOK.stays {ρ : Nat → Loc} {w w' : World} {id : Nat} {b : Blk} (h : BlkOK ρ w id b) (hw : ∀ x, (ρ id).a = some x → w'.heap[x.block]? = w.heap[x.block]?) : BlkOK ρ w' id b := by
  obtain ⟨k, ty, c⟩ := b
  unfold BlkOK at *
  match k, h with
  | 0, h =>
    obtain ⟨g, ha, hg⟩ := h
    exact ⟨g, ha, (hw _ ha).trans hg⟩
  | 1, h =>
    refine ⟨h.1, ?_⟩
    rcases h.2 with h2 | ⟨g, cap, cur, hv, hb, hg, hr⟩
    · exact .inl h2
    · refine .inr ⟨g, cap, cur, hv, hb, ?_, hr⟩
      injection hv with hv _ _
      exact (hw _ hv).trans hg
  | k + 2, h =>
    refine ⟨h.1, ?_⟩
    rcases h.2 with h2 | ⟨x, hx, hc⟩
    · exact .inl h2
    · refine .inr ⟨x, hx, fun j u hj => ?_⟩
      have h1 := hc j u hj
      rw [← h1]
      refine World.cell?_of_block (w := w) ?_
      have : (x.add j).block = x.block := by unfold Addr.add; split <;> rfl
      rw [this]
      exact hw _ hx

/-- Behind a step that changes, of the blocks that are known, none but those in U, and makes those at new names. -/
theorem HR.step {ρ ρ' : Nat → Loc} {D D' : Nat → Prop} {N : Nat} {M : List Nat} {G G' : Nat → Option Blk} {w w' : World} {U : Nat → Prop} (h : HR ρ D N M G w)
    (hρ : ∀ id, D id → ρ' id = ρ id) (hD : ∀ id, D id → D' id) (hsz : w.heap.size ≤ w'.heap.size)
    (hold : ∀ id b, G' id = some b → ¬ U id → G id = some b)
    (hst : ∀ id b x, G' id = some b → ¬ U id → (ρ id).a = some x → w'.heap[x.block]? = w.heap[x.block]?)
    (hnew : ∀ id b, G' id = some b → U id → D' id ∧ segsIn D' b.c ∧ BlkOK ρ' w' id b)
    (hlt : ∀ id b x, G' id = some b → U id → (ρ' id).a = some x → x.block < w'.heap.size)
    (hown : ∀ id b x, G' id = some b → U id → b.k < 2 → (ρ' id).a = some x → N ≤ x.block ∨ x.block ∈ M)
    (hdist : ∀ i j bi bj x y, G' i = some bi → G' j = some bj → i ≠ j → (U i ∨ U j) → bi.k < 2 → (ρ' i).a = some x → (ρ' j).a = some y → x.block ≠ y.block) : HR ρ' D' N M G' w' := by
  refine ⟨Nat.le_trans h.size hsz, fun id b hb => ?_, fun id b x hb hx => ?_, fun id b x hb hk hx => ?_, fun i j bi bj x y hi hj hij hk hx hy => ?_⟩
  · by_cases hU : U id
    · exact hnew id b hb hU
    · obtain ⟨h1, h2, h3⟩ := h.blk id b (hold id b hb hU)
      exact ⟨hD id h1, h2.mono hD, (BlkOK.congr hρ h1 h2 (h3.stays (hst id b · hb hU)))⟩
  · by_cases hU : U id
    · exact hlt id b x hb hU hx
    · have h1 := hold id b hb hU
      rw [hρ id (h.blk id b h1).1] at hx
      exact Nat.lt_of_lt_of_le (h.lt id b x h1 hx) hsz
  · by_cases hU : U id
    · exact hown id b x hb hU hk hx
    · have h1 := hold id b hb hU
      rw [hρ id (h.blk id b h1).1] at hx
      exact h.own id b x h1 hk hx
  · by_cases hU : U i ∨ U j
    · exact hdist i j bi bj x y hi hj hij hU hk hx hy
    · rw [not_or] at hU
      have h1 := hold i bi hi hU.1
      have h2 := hold j bj hj hU.2
      rw [hρ i (h.blk i bi h1).1] at hx
      rw [hρ j (h.blk j bj h2).1] at hy
      exact h.dist i j bi bj x y h1 h2 hij hk hx hy

end Go.Proofs.Ytkoackalpcmhaaa.Am
