/- The abstract machine: contracts by what the arguments read as. Conditions: none. -/
import Derived.Test.YtkoackalpcmhaaaZ6
import Derived.KernelRfl
import Derived.Test.YtkoackalpcmhaaaRows
import Derived.WalkKit
import Derived.ProofKit
import Derived.OpenShut
import Derived.ChangeOld
import Derived.Below
import Derived.ChangeSlices
import Derived.Test.YtkoackalpcmhaaaZ1
set_option linter.unusedSectionVars false
namespace Go.Proofs.Ytkoackalpcmhaaa.Am
set_option linter.unusedVariables false
set_option linter.unusedSimpArgs false
open Go Go.RowKit

/-- An argument, by what it reads as: an integer, a truth, a slice of integers, an array of integers. -/
inductive CA where
  | i (k : IntKind) (z : Int)
  | b (x : Bool)
  | sl (k : IntKind) (l : List Int)
  | ag (k : IntKind) (l : List Int)
inductive Sh where
  | i (k : IntKind) | b | sl (k : IntKind) | ag (k : IntKind)
def canA : List CA → Nat → List SV
  | [], _ => []
  | .i k z :: l, n => ofV (.int k z) :: canA l n
  | .b x :: l, n => ofV (.bool x) :: canA l n
  | .sl _ zs :: l, n => .av (.one (.r n 0 zs.length 0)) :: canA l (n + 1)
  | .ag k zs :: l, n => .av (.one (.arr k zs)) :: canA l n
def canH : List CA → Nat → List (Nat × Blk)
  | [], _ => []
  | .sl k zs :: l, n => (n, ⟨2, 0, [.arr k zs]⟩) :: canH l (n + 1)
  | _ :: l, n => canH l n
def cntA : List CA → Nat
  | [] => 0
  | .sl _ _ :: l => cntA l + 1
  | _ :: l => cntA l
def cutI (zs : List Int) (off len : Nat) : List Int := (match off with
  | 0 => zs
  | n + 1 => zs.drop (n + 1)).take len
theorem cutI_eq (zs : List Int) (off len : Nat) : cutI zs off len = (zs.drop off).take len := by
  unfold cutI
  cases off <;> rfl
theorem cutI_all (zs : List Int) : cutI zs 0 zs.length = zs := by simp [cutI]
def readA (G : Nat → Option Blk) : Sh → SV → Option (CA × Asm)
  | .i k, .av (.one (.v (.int j z))) => match Nat.beq (ik j) (ik k) with
    | true => some (.i k z, .tt)
    | false => none
  | .b, .av (.one (.v (.bool x))) => some (.b x, .tt)
  | .sl k, .av (.one (.v (.slice none 0 0))) => some (.sl k [], .tt)
  | .sl k, .av (.one (.s id off len cap)) => match G id with
    | some b => match intsOf k b.c with
      | some zs => some (.sl k (cutI zs off len), .say (off + len ≤ zs.length ∧ len ≤ cap))
      | none => none
    | none => none
  | .sl k, .av (.one (.r id off len _)) => match G id with
    | some b => match intsOf k b.c, Nat.ble 1 b.k with
      | some zs, true => some (.sl k (cutI zs off len), .say (off + len ≤ zs.length))
      | _, _ => none
    | none => none
  | .ag k, .av a => match intsOf k a.segs, aggB a with
    | some zs, true => some (.ag k zs, .tt)
    | _, _ => none
  | _, _ => none
def readAs (G : Nat → Option Blk) : List Sh → List SV → Option (List CA × Asm)
  | [], [] => some ([], .tt)
  | s :: l, x :: m => match readA G s x, readAs G l m with
    | some (c, p), some (cs, q) => some (c :: cs, p.and q)
    | _, _ => none
  | _, _ => none

section
variable {P : Program} {T : List (Nat × Ty)} {ρ : Nat → Loc} {D : Nat → Prop} {N : Nat} {M : List Nat} {G : Nat → Option Blk} {base : Nat} {w : World}
variable [GT]

omit [GT] in
/-- What a row to be read needs of its place. -/
def RowAt (w : World) (l : Loc) (k : IntKind) (zs : List Int) : Prop :=
  zs.length ≤ l.cap ∧ (zs = [] ∨ ∃ x, l.a = some x ∧ ∀ j u, (zs.map (Value.int k))[j]? = some u → w.cell? (x.add j) = some u) ∧ ∀ x, l.a = some x → x.block < w.heap.size
theorem row_part (hG : HR ρ D N M G w) {id : Nat} {b : Blk} (hb : G id = some b) {k : IntKind} {zs : List Int} (hz : intsOf k b.c = some zs) {off len : Nat} (hl : off + len ≤ zs.length) : (cutI zs off len).length = len ∧ (cutI zs off len = [] ∨ ∃ x, (ρ id).a = some x ∧ ∀ j u, ((cutI zs off len).map (Value.int k))[j]? = some u → w.cell? ((x.add off).add j) = some u) := by
  have hv := intsOf_spec ρ _ _ hz
  rw [cutI_eq]
  have hlen : ((zs.drop off).take len).length = len := by rw [List.length_take, List.length_drop]; omega
  refine ⟨hlen, ?_⟩
  by_cases h0 : len = 0
  · left
    rw [h0, List.take_zero]
  right
  have hcell : ∀ j, j < len → ∃ x, (ρ id).a = some x ∧ w.cell? (x.add (off + j)) = some (.int k (zs.getD (off + j) 0)) := fun j hj => by
    refine (hG.blk id b hb).2.2.cells ?_
    rw [hv, List.getElem?_map, List.getElem?_eq_getElem (by omega)]
    simp [List.getD_eq_getElem?_getD, List.getElem?_eq_getElem (show off + j < zs.length by omega)]
  obtain ⟨x, hx, _⟩ := hcell 0 (by omega)
  refine ⟨x, hx, fun j u hj => ?_⟩
  have hjl : j < len := by
    rcases Nat.lt_or_ge j len with h | h
    · exact h
    · rw [List.getElem?_eq_none (by rw [List.length_map, hlen]; exact h)] at hj; cases hj
  rw [List.getElem?_map, List.getElem?_take, if_pos hjl, List.getElem?_drop, List.getElem?_eq_getElem (by omega)] at hj
  simp only [Option.map_some, Option.some.injEq] at hj
  subst hj
  obtain ⟨y, hy, hc⟩ := hcell j hjl
  rw [hx] at hy
  injection hy with hy
  subst hy
  rw [add_add, hc, List.getD_eq_getElem?_getD, List.getElem?_eq_getElem (by omega)]
  rfl
theorem canon (hG : HR ρ D N M G w) : ∀ (shs : List Sh) (svs : List SV) (cas : List CA) (p : Asm) (n : Nat), readAs G shs svs = some (cas, p) → p.holds → cas.length = shs.length ∧ ∃ ls : List Loc, ls.length = cntA cas ∧ ∀ ρc : Nat → Loc, (∀ (j : Nat) (l : Loc), ls[j]? = some l → ρc (n + j) = l) →
    (canA cas n).map (SV.conc ρc) = svs.map (SV.conc ρ) ∧ ∀ i b, look (canH cas n) i = some b → n ≤ i ∧ i < n + cntA cas ∧ ∃ k zs, b = ⟨2, 0, [.arr k zs]⟩ ∧ RowAt w (ρc i) k zs
  | [], [], cas, p, n, h, _ => by
    simp only [readAs, Option.some.injEq, Prod.mk.injEq] at h
    obtain ⟨rfl, rfl⟩ := h
    exact ⟨rfl, [], rfl, fun ρc _ => ⟨rfl, fun i b hb => by cases hb⟩⟩
  | [], _ :: _, _, _, _, h, _ => by cases h
  | _ :: _, [], _, _, _, h, _ => by cases h
  | s :: l, x :: m, cas, p, n, h, hp => by
    unfold readAs at h
    split at h
    · rename_i c p1 cs q h1 h2
      simp only [Option.some.injEq, Prod.mk.injEq] at h
      obtain ⟨rfl, rfl⟩ := h
      have row : ∀ (k : IntKind) (zs : List Int) (lc : Loc), c = .sl k zs → RowAt w lc k zs → (∀ ρc : Nat → Loc, ρc n = lc → SV.conc ρc (.av (.one (.r n 0 zs.length 0))) = x.conc ρ) → (c :: cs).length = (s :: l).length ∧ ∃ ls : List Loc, ls.length = cntA (c :: cs) ∧ ∀ ρc : Nat → Loc, (∀ (j : Nat) (l : Loc), ls[j]? = some l → ρc (n + j) = l) →
          (canA (c :: cs) n).map (SV.conc ρc) = (x :: m).map (SV.conc ρ) ∧ ∀ i b, look (canH (c :: cs) n) i = some b → n ≤ i ∧ i < n + cntA (c :: cs) ∧ ∃ k zs, b = ⟨2, 0, [.arr k zs]⟩ ∧ RowAt w (ρc i) k zs := by
        intro k zs lc hc hrow hx
        subst hc
        obtain ⟨hlen, ls, hls, h3⟩ := canon hG l m cs q (n + 1) h2 hp.2
        refine ⟨by simp [hlen], lc :: ls, by simp [cntA, hls], fun ρc hρ => ?_⟩
        have h0 : ρc n = lc := hρ 0 lc rfl
        obtain ⟨h4, h5⟩ := h3 ρc fun j lj hj => by
          have := hρ (j + 1) lj (by simpa using hj)
          rw [show n + 1 + j = n + (j + 1) by omega]
          exact this
        refine ⟨by simp only [canA, List.map_cons, h4, hx ρc h0], fun i b hb => ?_⟩
        simp only [canH, look_cons] at hb
        by_cases hi : n = i
        · subst hi
          rw [if_pos rfl] at hb
          injection hb with hb
          subst hb
          exact ⟨Nat.le_refl _, by simp only [cntA]; omega, k, zs, rfl, by rw [h0]; exact hrow⟩
        · rw [if_neg hi] at hb
          obtain ⟨h6, h7, h8⟩ := h5 i b hb
          exact ⟨by omega, by simp only [cntA]; omega, h8⟩
      have plain : cntA (c :: cs) = cntA cs → (∀ k, canH (c :: cs) k = canH cs k) → (∃ y, (∀ k, canA (c :: cs) k = y :: canA cs k) ∧ ∀ ρc : Nat → Loc, y.conc ρc = x.conc ρ) → (c :: cs).length = (s :: l).length ∧ ∃ ls : List Loc, ls.length = cntA (c :: cs) ∧ ∀ ρc : Nat → Loc, (∀ (j : Nat) (l : Loc), ls[j]? = some l → ρc (n + j) = l) →
          (canA (c :: cs) n).map (SV.conc ρc) = (x :: m).map (SV.conc ρ) ∧ ∀ i b, look (canH (c :: cs) n) i = some b → n ≤ i ∧ i < n + cntA (c :: cs) ∧ ∃ k zs, b = ⟨2, 0, [.arr k zs]⟩ ∧ RowAt w (ρc i) k zs := by
        intro e1 e2 ⟨y, e3, hy⟩
        obtain ⟨hlen, ls, hls, h3⟩ := canon hG l m cs q n h2 hp.2
        refine ⟨by simp [hlen], ls, by rw [e1, hls], fun ρc hρ => ?_⟩
        obtain ⟨h4, h5⟩ := h3 ρc hρ
        refine ⟨by rw [e3, List.map_cons, List.map_cons, h4, hy], fun i b hb => ?_⟩
        rw [e2] at hb
        rw [e1]
        exact h5 i b hb
      have hp1 := hp.1
      unfold readA at h1
      split at h1
      · split at h1
        · rename_i k j z hk
          simp only [Option.some.injEq, Prod.mk.injEq] at h1
          obtain ⟨rfl, rfl⟩ := h1
          have := ik_inj hk
          subst this
          exact plain rfl (fun _ => rfl) ⟨_, fun _ => rfl, fun _ => rfl⟩
        · cases h1
      · simp only [Option.some.injEq, Prod.mk.injEq] at h1
        obtain ⟨rfl, rfl⟩ := h1
        exact plain rfl (fun _ => rfl) ⟨_, fun _ => rfl, fun _ => rfl⟩
      · rename_i k
        simp only [Option.some.injEq, Prod.mk.injEq] at h1
        obtain ⟨rfl, rfl⟩ := h1
        exact row k [] ⟨none, 0⟩ rfl ⟨Nat.le_refl _, .inl rfl, fun x hx => by cases hx⟩ fun ρc h0 => by simp [SV.conc, AV.conc, Seg.conc, h0, radr]
      · rename_i k id off len cap
        split at h1
        · rename_i b hb
          split at h1
          · rename_i zs hz
            simp only [Option.some.injEq, Prod.mk.injEq] at h1
            obtain ⟨rfl, rfl⟩ := h1
            obtain ⟨hl1, hl2⟩ : off + len ≤ zs.length ∧ len ≤ cap := hp1
            obtain ⟨e1, e2⟩ := row_part hG hb hz hl1
            refine row k _ ⟨(ρ id).a.map (·.add off), cap⟩ rfl ⟨by rw [e1]; exact hl2, e2.imp (fun h => h) fun ⟨x, hx, h⟩ => ⟨x.add off, by simp [hx], h⟩, fun x hx => ?_⟩ fun ρc h0 => ?_
            · simp only [Option.map_eq_some_iff] at hx
              obtain ⟨y, hy, rfl⟩ := hx
              have := hG.lt id b y hb hy
              have e : (y.add off).block = y.block := by unfold Addr.add; split <;> rfl
              rw [e]; exact this
            · simp only [SV.conc, AV.conc, Seg.conc, h0, radr, e1]
              cases (ρ id).a <;> simp [Addr.add]
          · cases h1
        · cases h1
      · rename_i k id off len ad
        split at h1
        · rename_i b hb
          split at h1
          · rename_i zs hz hk
            simp only [Option.some.injEq, Prod.mk.injEq] at h1
            obtain ⟨rfl, rfl⟩ := h1
            have hl1 : off + len ≤ zs.length := hp1
            obtain ⟨e1, e2⟩ := row_part hG hb hz hl1
            have hcap : zs.length ≤ (ρ id).cap := by
              have := ((hG.blk id b hb).2.2.ro (.inr (Nat.le_of_ble_eq_true hk))).1
              rw [intsOf_spec ρ _ _ hz, List.length_map] at this
              exact this
            refine row k _ ⟨radr (ρ id) off ad, (ρ id).cap - off⟩ rfl ⟨by rw [e1]; simp only; omega, ?_, fun x hx => ?_⟩ fun ρc h0 => ?_
            · rcases e2 with h | ⟨x, hx, h⟩
              · exact .inl h
              · by_cases h0 : len = 0
                · exact .inl (List.eq_nil_of_length_eq_zero (by rw [e1, h0]))
                · exact .inr ⟨x.add off, by simp only [radr, hx, Option.map_some]; rw [if_neg (by omega)], h⟩
            · simp only [radr, Option.map_eq_some_iff] at hx
              obtain ⟨y, hy, rfl⟩ := hx
              have := hG.lt id b y hb hy
              have e : ∀ o, (y.add o).block = y.block := fun o => by unfold Addr.add; split <;> rfl
              rw [e]; exact this
            · simp only [SV.conc, AV.conc, Seg.conc, h0, e1]
              congr 1
              unfold radr
              simp only
              cases (ρ id).a <;> simp [Addr.add]
          · cases h1
        · cases h1
      · split at h1
        · rename_i k a zs hz hagg
          simp only [Option.some.injEq, Prod.mk.injEq] at h1
          obtain ⟨rfl, rfl⟩ := h1
          refine plain rfl (fun _ => rfl) ⟨_, fun _ => rfl, fun ρc => ?_⟩
          rw [conc_av, conc_av, aggB_conc ρ hagg, intsOf_spec ρ _ _ hz]
          rfl
        · cases h1
      · cases h1
    · cases h
omit [GT] in
theorem canA_in : ∀ (cas : List CA) (n : Nat), ∀ s ∈ canA cas n, s.In (· < n + cntA cas)
  | [], n, s, h => by cases h
  | .i k z :: l, n, s, h => by
    rcases List.mem_cons.1 h with rfl | h
    · exact fun s hs => by simp [AV.segs] at hs; subst hs; trivial
    · exact canA_in l n s h
  | .b x :: l, n, s, h => by
    rcases List.mem_cons.1 h with rfl | h
    · exact fun s hs => by simp [AV.segs] at hs; subst hs; trivial
    · exact canA_in l n s h
  | .ag k zs :: l, n, s, h => by
    rcases List.mem_cons.1 h with rfl | h
    · exact fun s hs => by simp [AV.segs] at hs; subst hs; trivial
    · exact canA_in l n s h
  | .sl k zs :: l, n, s, h => by
    rcases List.mem_cons.1 h with rfl | h
    · refine fun s hs => ?_
      simp [AV.segs] at hs
      subst hs
      show n < n + (cntA l + 1)
      omega
    · exact (canA_in l (n + 1) s h).mono fun i hi => by
        show i < n + (cntA l + 1)
        have : i < n + 1 + cntA l := hi
        omega
omit [GT] in
theorem canA_len : ∀ (cas : List CA) (n : Nat), (canA cas n).length = cas.length
  | [], _ => rfl
  | .i _ _ :: l, n => by simp [canA, canA_len l]
  | .b _ :: l, n => by simp [canA, canA_len l]
  | .sl _ _ :: l, n => by simp [canA, canA_len l]
  | .ag _ _ :: l, n => by simp [canA, canA_len l]
/-- A package's variable that a contract reads: its number, and what it holds. -/
abbrev GV := Nat × IntKind × List Int
omit [GT] in
def gH : List GV → Nat → List (Nat × Blk)
  | [], _ => []
  | (_, k, l) :: gs, n => (n, ⟨2, 0, [.arr k l]⟩) :: gH gs (n + 1)
omit [GT] in
def gL : List GV → Nat → List (Nat × Nat)
  | [], _ => []
  | (g, _, _) :: gs, n => (g, n) :: gL gs (n + 1)
omit [GT] in
theorem look_app {α : Type} (n : Nat) : ∀ (l m : List (Nat × α)), look (l ++ m) n = (look l n).or (look m n)
  | [], m => by simp [look]
  | (k, x) :: l, m => by
    rw [List.cons_append, look_cons, look_cons, look_app n l m]
    split <;> rfl
omit [GT] in
theorem gH_spec : ∀ (gs : List GV) (n i : Nat) (b : Blk), look (gH gs n) i = some b → n ≤ i ∧ i < n + gs.length ∧ ∃ x, gs[i - n]? = some x ∧ b = ⟨2, 0, [.arr x.2.1 x.2.2]⟩
  | [], n, i, b, h => by cases h
  | (g, k, l) :: gs, n, i, b, h => by
    simp only [gH, look_cons] at h
    by_cases hi : n = i
    · subst hi
      rw [if_pos rfl] at h
      injection h with h
      subst h
      exact ⟨Nat.le_refl _, by simp, (g, k, l), by simp, rfl⟩
    · rw [if_neg hi] at h
      obtain ⟨h1, h2, x, hx, hb⟩ := gH_spec gs (n + 1) i b h
      refine ⟨by omega, by simp only [List.length_cons]; omega, x, ?_, hb⟩
      rw [show i - n = (i - (n + 1)) + 1 by omega, List.getElem?_cons_succ]
      exact hx
omit [GT] in
theorem gL_spec : ∀ (gs : List GV) (n g i : Nat), look (gL gs n) g = some i → n ≤ i ∧ i < n + gs.length ∧ ∃ x, gs[i - n]? = some x ∧ x.1 = g
  | [], n, g, i, h => by cases h
  | (g0, k, l) :: gs, n, g, i, h => by
    simp only [gL, look_cons] at h
    by_cases hg : g0 = g
    · subst hg
      rw [if_pos rfl] at h
      injection h with h
      subst h
      exact ⟨Nat.le_refl _, by simp, (g0, k, l), by simp, rfl⟩
    · rw [if_neg hg] at h
      obtain ⟨h1, h2, x, hx, hb⟩ := gL_spec gs (n + 1) g i h
      refine ⟨by omega, by simp only [List.length_cons]; omega, x, ?_, hb⟩
      rw [show i - n = (i - (n + 1)) + 1 by omega, List.getElem?_cons_succ]
      exact hx
/-- The memory that a contract's run begins with. -/
theorem can_hr {cas : List CA} {gs : List GV} (hgs : ∀ x, x ∈ gs → (x.1, x.2.2.map (Value.int x.2.1)) ∈ GT.tab) {ρc : Nat → Loc} (hgw : GWok w.heap.size [] w) (hρ : ∀ i x, gs[i]? = some x → ρc (cntA cas + i) = ⟨some ⟨x.1, 0, none⟩, x.2.2.length⟩) (h : ∀ i b, look (canH cas 0) i = some b → 0 ≤ i ∧ i < 0 + cntA cas ∧ ∃ k zs, b = ⟨2, 0, [.arr k zs]⟩ ∧ RowAt w (ρc i) k zs) : HR ρc (· < cntA cas + gs.length) w.heap.size [] (look (canH cas 0 ++ gH gs (cntA cas))) w := by
  have hall : ∀ i b, look (canH cas 0 ++ gH gs (cntA cas)) i = some b → i < cntA cas + gs.length ∧ ∃ k zs, b = ⟨2, 0, [.arr k zs]⟩ ∧ RowAt w (ρc i) k zs := fun i b hb => by
    rw [look_app] at hb
    cases h1 : look (canH cas 0) i with
    | some b' =>
      rw [h1] at hb
      simp only [Option.some_or, Option.some.injEq] at hb
      subst hb
      obtain ⟨_, h2, h3⟩ := h i b' h1
      exact ⟨by omega, h3⟩
    | none =>
      rw [h1, Option.none_or] at hb
      obtain ⟨h2, h3, x, hx, rfl⟩ := gH_spec _ _ _ _ hb
      obtain ⟨g1, g2, cs, ty, mk, g3, g4⟩ := hgw _ (hgs x (List.mem_of_getElem? hx))
      have e := hρ _ x hx
      rw [show cntA cas + (i - cntA cas) = i by omega] at e
      refine ⟨h3, x.2.1, x.2.2, rfl, by rw [e]; exact Nat.le_refl _, ?_, fun y hy => ?_⟩
      · right
        refine ⟨⟨x.1, 0, none⟩, by rw [e], fun j u hj => ?_⟩
        rw [Addr.add_lit]
        simp only at g3 g4
        rw [← g4] at hj
        simp only [World.cell?, g3, Nat.zero_add]
        simpa using hj
      · rw [e] at hy
        injection hy with hy
        subst hy
        exact g1
  refine ⟨Nat.le_refl _, fun i b hb => ?_, fun i b x hb hx => ?_, fun i b x hb hk hx => ?_, fun i j bi bj x y hi hj hij hk hx hy => ?_, hgw⟩
  · obtain ⟨h2, k, zs, rfl, h3, h4, _⟩ := hall i b hb
    refine ⟨h2, fun s hs => (by simp at hs; subst hs; trivial), ?_⟩
    show (segsVals _ _).length ≤ _ ∧ _
    rw [segsVals_one]
    refine ⟨by simpa [Seg.vals] using h3, ?_⟩
    rcases h4 with rfl | h4
    · exact .inl rfl
    · exact .inr h4
  · obtain ⟨_, k, zs, rfl, _, _, h5⟩ := hall i b hb
    exact h5 x hx
  · obtain ⟨_, k, zs, rfl, _⟩ := hall i b hb
    simp at hk
  · obtain ⟨_, k, zs, rfl, _⟩ := hall i bi hi
    simp at hk

/-! ### Names, twice -/
omit [GT] in
theorem Seg.ren_ren (f g : Nat → Nat) (s : Seg) : (s.ren g).ren f = s.ren fun e => f (g e) := by cases s <;> rfl
omit [GT] in
theorem renL_ren (f g : Nat → Nat) (l : List Seg) : renL f (renL g l) = renL (fun e => f (g e)) l := by
  rw [renL_map, renL_map, renL_map, List.map_map]
  exact List.map_congr_left fun s _ => Seg.ren_ren f g s
omit [GT] in
theorem AV.ren_ren (f g : Nat → Nat) (a : AV) : (a.ren g).ren f = a.ren fun e => f (g e) := by
  cases a with
  | one s => simp [AV.ren, Seg.ren_ren]
  | agg l => simp [AV.ren, renL_ren]
omit [GT] in
theorem SV.ren_ren (f g : Nat → Nat) (s : SV) : (s.ren g).ren f = s.ren fun e => f (g e) := by
  cases s with
  | av a => simp [SV.ren, AV.ren_ren]
  | tup l =>
    simp only [SV.ren, renT_map, List.map_map]
    congr 1
    exact List.map_congr_left fun a _ => AV.ren_ren f g a
omit [GT] in
theorem newOf_ren (hp : List (Nat × Blk)) (f g : Nat → Nat) : ∀ es : List Nat, newOf hp (fun e => f (g e)) es = (newOf hp g es).map fun b => ⟨b.k, b.ty, renL f b.c⟩
  | [] => rfl
  | e :: l => by
    unfold newOf
    split
    · simp [newOf_ren hp f g l, renL_ren]
    · exact newOf_ren hp f g l

/-! ### Contracts -/
structure CR where
  pre : Prop := True
  val : SV
  new : List Blk := []
omit [GT] in
def entC (sh : List Sh) (F : List CA → Option CR) : Ent := fun args G base => match readAs G sh args with
  | some (cas, p) => match F cas with
    | some r => some { val := r.val.ren (fun e => base + e), new := r.new.map fun b => ⟨b.k, b.ty, renL (fun e => base + e) b.c⟩, asm := p.and (.say r.pre) }
    | none => none
  | none => none
omit [GT] in
def endB (st : St) (v : SV) (es : List Nat) : Bool := v.allB (expB 0 es fun _ => false) && (es.all (esB 0 st.hp (expB 0 es fun _ => false)) && nodupB es)
/-- A run's end, as a contract tells it. -/
def Ends (P : Program) (T : List (Nat × Ty)) (gs : List GV) (fn : Func) (cas : List CA) (r : CR) : Prop :=
  ∃ todo' st v es, (todo' = [] ∨ todo' = [.fin]) ∧ From P fn (canA cas 0) (canH cas 0 ++ gH gs (cntA cas)) (cntA cas + gs.length) (gL gs (cntA cas)) todo' st ∧ resVal T st fn.results.toList = some v ∧ endB st v es = true ∧ (v.ren (fun e => idx e es), newOf st.hp (fun e => idx e es) es) = (r.val, r.new)
theorem ok_C (hT : TOK P T) {f : FuncId} {fn : Func} (hf : P.funcs[f]? = some fn) (hname : (fn.name == "runtime.NumGoroutine") = false) (hbs : fn.body.isSome = true) (gs : List GV) (hgs : ∀ x, x ∈ gs → (x.1, x.2.2.map (Value.int x.2.1)) ∈ GT.tab) {sh : List Sh} {F : List CA → Option CR} (hlen : Nat.ble sh.length fn.ntmps = true)
    (h : ∀ cas r, F cas = some r → r.pre → Ends P T gs fn cas r) : EntOK P f (entC sh F) := by
  refine ⟨⟨fn, hf, hname, hbs⟩, fun args G base res hr ha ρ D N M w hG hin hfr => ?_⟩
  unfold entC at hr
  split at hr
  · rename_i cas p hread
    split at hr
    · rename_i r hF
      simp only [Option.some.injEq] at hr
      subst hr
      obtain ⟨hap, har⟩ := ha
      have har : r.pre := har
      obtain ⟨todo', st, v, es, hfin, ⟨c, hc, hRe⟩, hv, hend, heq⟩ := h cas r hF har
      simp only [Prod.mk.injEq] at heq
      obtain ⟨hrv, hrn⟩ := heq
      obtain ⟨hcl, ls, hls, hcan⟩ := canon hG sh args cas p 0 hread hap
      obtain ⟨ρc, hρc⟩ : ∃ ρc : Nat → Loc, ρc = fun i => if i < cntA cas then ls.getD i ⟨none, 0⟩ else match gs[i - cntA cas]? with
        | some x => ⟨some ⟨x.1, 0, none⟩, x.2.2.length⟩
        | none => ⟨none, 0⟩ := ⟨_, rfl⟩
      obtain ⟨h4, h5⟩ := hcan ρc fun j l hj => by
        have hjl := (List.getElem?_eq_some_iff.1 hj).1
        rw [hρc, Nat.zero_add]
        simp only
        rw [if_pos (by omega), List.getD_eq_getElem?_getD, hj]; rfl
      have hρg : ∀ i x, gs[i]? = some x → ρc (cntA cas + i) = ⟨some ⟨x.1, 0, none⟩, x.2.2.length⟩ := fun i x hx => by
        rw [hρc]
        simp only
        rw [if_neg (by omega), show cntA cas + i - cntA cas = i by omega, hx]
      unfold endB at hend
      rw [Bool.and_eq_true, Bool.and_eq_true] at hend
      have hl : es.length = r.new.length := by
        rw [← hrn]
        refine ((newOf_spec (hp := st.hp) (τ := fun e => idx e es) (es := es) fun e he => ?_).1).symm
        have := List.all_eq_true.1 hend.2.1 e he
        unfold esB at this
        split at this
        · rename_i b hb; exact ⟨b, hb⟩
        · cases this
      have hcall := reach_newG (D := D) (N := N) (M := M) (G := G) (base := base) (ρ := ρ) hT hf hc (avs := canA cas 0) hfin hRe hv hend.1 hend.2.1 hend.2.2 (by rw [canA_len, hcl]; exact hlen) (fun s hs => by
        refine (canA_in cas 0 s hs).mono fun i hi => ?_
        have : i < 0 + cntA cas := hi
        show i < cntA cas + gs.length
        omega) (can_hr hgs (hG.gw.call hG.size fun g hg => by cases hg) hρg h5) (fun g id hg => by
        obtain ⟨g1, g2, x, hx, rfl⟩ := gL_spec _ _ _ _ hg
        have := hρg _ x hx
        rw [show cntA cas + (id - cntA cas) = id by omega] at this
        exact ⟨by rw [this], g2⟩) hG (fun id h1 h2 => hfr id h1 (by simp only [List.length_map]; omega)) (r := { val := r.val.ren (fun e => base + e), new := r.new.map fun b => ⟨b.k, b.ty, renL (fun e => base + e) b.c⟩, asm := p.and (.say r.pre) }) (by
          rw [← hrv, ← hrn, SV.ren_ren, ← newOf_ren])
      rw [h4] at hcall
      exact hcall
    · cases hr
  · cases hr

end
end Go.Proofs.Ytkoackalpcmhaaa.Am
/- The reference's key words, round by round. Conditions: none. -/
namespace Go.Proofs.Ytkoackalpcmhaaa.Am
set_option linter.unusedVariables false
set_option linter.unusedSimpArgs false
open Go Go.RowKit
variable [GT]

omit [GT] in
noncomputable abbrev fRK : Func := Try.f15
omit [GT] in
def kO : List (Nat × Ent) := [(25, e2I .i64 pT fun _ b => 0 ≤ b ∧ b < 256)]
theorem kO_ok : OOK Try.prog kO := ook_of (l := [(25, e2I .i64 pT fun _ b => 0 ≤ b ∧ b < 256)]) ⟨times_ent, trivial⟩
omit [GT] in
def kS (kb W : Nat → Int) (x : Int) (i : Nat) : St := { tm := tmL 111 [(3, .av (.one (.p 1 0))), (5, .av (.one (.r 2 0 (4 * i) 0))), (7, ofV (.int .i64 x)), (8, ofV (.int .i64 i))], hp := [(0, ⟨2, 0, [.arr .u8 (keyL 32 kb)]⟩), (1, ⟨0, 29, [.arr .i64 sbox]⟩), (2, ⟨1, 3, [.arr .i64 (keyL (4 * i) W)]⟩)], nx := 3, gl := [] }
omit [GT] in
def k0W (kb : Nat → Int) (j : Nat) : Int := IntKind.i64.wrap (kb j)
omit [GT] in
def kT (W : Nat → Int) (x : Int) (i : Nat) : List Int := match i % 8 with
  | 0 => [xo (sb (W (4 * i - 3))) x, sb (W (4 * i - 2)), sb (W (4 * i - 1)), sb (W (4 * i - 4))]
  | 4 => [sb (W (4 * i - 4)), sb (W (4 * i - 3)), sb (W (4 * i - 2)), sb (W (4 * i - 1))]
  | _ => [W (4 * i - 4), W (4 * i - 3), W (4 * i - 2), W (4 * i - 1)]
omit [GT] in
def kW (W : Nat → Int) (x : Int) (i : Nat) : List Int := [xo (W (4 * i - 32)) (g2 (kT W x i) 0), xo (W (4 * i - 31)) (g2 (kT W x i) 1), xo (W (4 * i - 30)) (g2 (kT W x i) 2), xo (W (4 * i - 29)) (g2 (kT W x i) 3)]
omit [GT] in
def kX (x : Int) (i : Nat) : Int := match i % 8 with
  | 0 => pT x 2
  | _ => x
omit [GT] in
def kP0 (W : Nat → Int) (i : Nat) : List Prop := [inR (W (4 * i - 3)), (W (4 * i - 3)).toNat < sbox.length, inR (W (4 * i - 2)), (W (4 * i - 2)).toNat < sbox.length, inR (W (4 * i - 1)), (W (4 * i - 1)).toNat < sbox.length, inR (W (4 * i - 4)), (W (4 * i - 4)).toNat < sbox.length, (0 : Int) ≤ 2 ∧ (2 : Int) < 256]
omit [GT] in
def kP4 (W : Nat → Int) (i : Nat) : List Prop := rP (W (4 * i - 4)) ++ (rP (W (4 * i - 3)) ++ (rP (W (4 * i - 2)) ++ rP (W (4 * i - 1))))
omit [GT] in
def kP1 (W : Nat → Int) (i : Nat) : List Prop := []
omit [GT] in
def kH0 : Nat → Nat → Hint := atH 13 3 symH (atH 13 4 symH (atH 13 10 symH (atH 13 11 symH (atH 13 15 symH (atH 13 16 symH (atH 13 20 symH (atH 13 21 symH noH)))))))
omit [GT] in
def kH : Nat → Nat → Hint := atH 16 3 symH (atH 16 4 symH (atH 16 8 symH (atH 16 9 symH (atH 16 13 symH (atH 16 14 symH (atH 16 18 symH (atH 16 19 symH kH0)))))))
omit [GT] in
def kM (kb W : Nat → Int) (x : Int) (i : Nat) (a b c d : Int) : St := { tm := tmL 111 [(3, .av (.one (.p 1 0))), (5, .av (.one (.r 2 0 (4 * i) 0))), (7, ofV (.int .i64 x)), (8, ofV (.int .i64 i)), (9, .av (.one (.s 3 0 4 4))), (10, ofV (.int .i64 0))], hp := [(0, ⟨2, 0, [.arr .u8 (keyL 32 kb)]⟩), (1, ⟨0, 29, [.arr .i64 sbox]⟩), (2, ⟨1, 3, [.arr .i64 (keyL (4 * i) W)]⟩), (3, ⟨0, 3, [.v (.int .i64 a), .v (.int .i64 b), .v (.int .i64 c), .v (.int .i64 d)]⟩)], nx := 4, gl := [] }
omit [GT] in
theorem k_start (kb : Nat → Int) : runF tyT kO noH [(3, 33)] 2 [65] [3, 5, 7, 8] fRK (canA [.sl .u8 (keyL 32 kb), .ag .i64 sbox] 0) (canH [.sl .u8 (keyL 32 kb), .ag .i64 sbox] 0 ++ gH [] 1) 1 [] = some (toAt fRK 9 [], kS kb (k0W kb) 1 8, []) := by kernel_rfl
omit [GT] in
theorem k_roundA8 (kb W : Nat → Int) (x : Int) (n : Nat) : runN tyT kO kH [] 2000 2 [2, 93] [3, 5, 7, 8, 9, 10] (inAt fRK 9 [] n) (kS kb W x 8) = some (toAt fRK 18 [n], kM kb W (pT x 2) 8 (g2 (kT W x 8) 0) (g2 (kT W x 8) 1) (g2 (kT W x 8) 2) (g2 (kT W x 8) 3), kP0 W 8) := by kernel_rfl
omit [GT] in
theorem k_roundB8 (kb W : Nat → Int) (x a b c d : Int) (n : Nat) : runN tyT kO noH [(18, 5)] 2000 2 [247] [3, 5, 7, 8] (toAt fRK 18 [n]) (kM kb W x 8 a b c d) = some (hdAt fRK 9 [] n, kS kb (updW W 8 [xo (W (4 * 8 - 32)) a, xo (W (4 * 8 - 31)) b, xo (W (4 * 8 - 30)) c, xo (W (4 * 8 - 29)) d]) x 9, []) := by kernel_rfl
omit [GT] in
theorem k_round9 (kb W : Nat → Int) (x : Int) (n : Nat) : runN tyT kO kH [(18, 5)] 2000 2 [248] [3, 5, 7, 8] (inAt fRK 9 [] n) (kS kb W x 9) = some (hdAt fRK 9 [] n, kS kb (updW W 9 (kW W x 9)) (kX x 9) 10, kP1 W 9) := by kernel_rfl
omit [GT] in
theorem k_round10 (kb W : Nat → Int) (x : Int) (n : Nat) : runN tyT kO kH [(18, 5)] 2000 2 [248] [3, 5, 7, 8] (inAt fRK 9 [] n) (kS kb W x 10) = some (hdAt fRK 9 [] n, kS kb (updW W 10 (kW W x 10)) (kX x 10) 11, kP1 W 10) := by kernel_rfl
omit [GT] in
theorem k_round11 (kb W : Nat → Int) (x : Int) (n : Nat) : runN tyT kO kH [(18, 5)] 2000 2 [248] [3, 5, 7, 8] (inAt fRK 9 [] n) (kS kb W x 11) = some (hdAt fRK 9 [] n, kS kb (updW W 11 (kW W x 11)) (kX x 11) 12, kP1 W 11) := by kernel_rfl
omit [GT] in
theorem k_round12 (kb W : Nat → Int) (x : Int) (n : Nat) : runN tyT kO kH [(18, 5)] 2000 2 [336] [3, 5, 7, 8] (inAt fRK 9 [] n) (kS kb W x 12) = some (hdAt fRK 9 [] n, kS kb (updW W 12 (kW W x 12)) (kX x 12) 13, kP4 W 12) := by kernel_rfl
omit [GT] in
theorem k_round13 (kb W : Nat → Int) (x : Int) (n : Nat) : runN tyT kO kH [(18, 5)] 2000 2 [248] [3, 5, 7, 8] (inAt fRK 9 [] n) (kS kb W x 13) = some (hdAt fRK 9 [] n, kS kb (updW W 13 (kW W x 13)) (kX x 13) 14, kP1 W 13) := by kernel_rfl
omit [GT] in
theorem k_round14 (kb W : Nat → Int) (x : Int) (n : Nat) : runN tyT kO kH [(18, 5)] 2000 2 [248] [3, 5, 7, 8] (inAt fRK 9 [] n) (kS kb W x 14) = some (hdAt fRK 9 [] n, kS kb (updW W 14 (kW W x 14)) (kX x 14) 15, kP1 W 14) := by kernel_rfl
omit [GT] in
theorem k_round15 (kb W : Nat → Int) (x : Int) (n : Nat) : runN tyT kO kH [(18, 5)] 2000 2 [248] [3, 5, 7, 8] (inAt fRK 9 [] n) (kS kb W x 15) = some (hdAt fRK 9 [] n, kS kb (updW W 15 (kW W x 15)) (kX x 15) 16, kP1 W 15) := by kernel_rfl
omit [GT] in
theorem k_roundA16 (kb W : Nat → Int) (x : Int) (n : Nat) : runN tyT kO kH [] 2000 2 [2, 93] [3, 5, 7, 8, 9, 10] (inAt fRK 9 [] n) (kS kb W x 16) = some (toAt fRK 18 [n], kM kb W (pT x 2) 16 (g2 (kT W x 16) 0) (g2 (kT W x 16) 1) (g2 (kT W x 16) 2) (g2 (kT W x 16) 3), kP0 W 16) := by kernel_rfl
omit [GT] in
theorem k_roundB16 (kb W : Nat → Int) (x a b c d : Int) (n : Nat) : runN tyT kO noH [(18, 5)] 2000 2 [247] [3, 5, 7, 8] (toAt fRK 18 [n]) (kM kb W x 16 a b c d) = some (hdAt fRK 9 [] n, kS kb (updW W 16 [xo (W (4 * 16 - 32)) a, xo (W (4 * 16 - 31)) b, xo (W (4 * 16 - 30)) c, xo (W (4 * 16 - 29)) d]) x 17, []) := by kernel_rfl
omit [GT] in
theorem k_round17 (kb W : Nat → Int) (x : Int) (n : Nat) : runN tyT kO kH [(18, 5)] 2000 2 [248] [3, 5, 7, 8] (inAt fRK 9 [] n) (kS kb W x 17) = some (hdAt fRK 9 [] n, kS kb (updW W 17 (kW W x 17)) (kX x 17) 18, kP1 W 17) := by kernel_rfl
omit [GT] in
theorem k_round18 (kb W : Nat → Int) (x : Int) (n : Nat) : runN tyT kO kH [(18, 5)] 2000 2 [248] [3, 5, 7, 8] (inAt fRK 9 [] n) (kS kb W x 18) = some (hdAt fRK 9 [] n, kS kb (updW W 18 (kW W x 18)) (kX x 18) 19, kP1 W 18) := by kernel_rfl
omit [GT] in
theorem k_round19 (kb W : Nat → Int) (x : Int) (n : Nat) : runN tyT kO kH [(18, 5)] 2000 2 [248] [3, 5, 7, 8] (inAt fRK 9 [] n) (kS kb W x 19) = some (hdAt fRK 9 [] n, kS kb (updW W 19 (kW W x 19)) (kX x 19) 20, kP1 W 19) := by kernel_rfl
omit [GT] in
theorem k_round20 (kb W : Nat → Int) (x : Int) (n : Nat) : runN tyT kO kH [(18, 5)] 2000 2 [336] [3, 5, 7, 8] (inAt fRK 9 [] n) (kS kb W x 20) = some (hdAt fRK 9 [] n, kS kb (updW W 20 (kW W x 20)) (kX x 20) 21, kP4 W 20) := by kernel_rfl
omit [GT] in
theorem k_round21 (kb W : Nat → Int) (x : Int) (n : Nat) : runN tyT kO kH [(18, 5)] 2000 2 [248] [3, 5, 7, 8] (inAt fRK 9 [] n) (kS kb W x 21) = some (hdAt fRK 9 [] n, kS kb (updW W 21 (kW W x 21)) (kX x 21) 22, kP1 W 21) := by kernel_rfl
omit [GT] in
theorem k_round22 (kb W : Nat → Int) (x : Int) (n : Nat) : runN tyT kO kH [(18, 5)] 2000 2 [248] [3, 5, 7, 8] (inAt fRK 9 [] n) (kS kb W x 22) = some (hdAt fRK 9 [] n, kS kb (updW W 22 (kW W x 22)) (kX x 22) 23, kP1 W 22) := by kernel_rfl
omit [GT] in
theorem k_round23 (kb W : Nat → Int) (x : Int) (n : Nat) : runN tyT kO kH [(18, 5)] 2000 2 [248] [3, 5, 7, 8] (inAt fRK 9 [] n) (kS kb W x 23) = some (hdAt fRK 9 [] n, kS kb (updW W 23 (kW W x 23)) (kX x 23) 24, kP1 W 23) := by kernel_rfl
omit [GT] in
theorem k_roundA24 (kb W : Nat → Int) (x : Int) (n : Nat) : runN tyT kO kH [] 2000 2 [2, 93] [3, 5, 7, 8, 9, 10] (inAt fRK 9 [] n) (kS kb W x 24) = some (toAt fRK 18 [n], kM kb W (pT x 2) 24 (g2 (kT W x 24) 0) (g2 (kT W x 24) 1) (g2 (kT W x 24) 2) (g2 (kT W x 24) 3), kP0 W 24) := by kernel_rfl
omit [GT] in
theorem k_roundB24 (kb W : Nat → Int) (x a b c d : Int) (n : Nat) : runN tyT kO noH [(18, 5)] 2000 2 [247] [3, 5, 7, 8] (toAt fRK 18 [n]) (kM kb W x 24 a b c d) = some (hdAt fRK 9 [] n, kS kb (updW W 24 [xo (W (4 * 24 - 32)) a, xo (W (4 * 24 - 31)) b, xo (W (4 * 24 - 30)) c, xo (W (4 * 24 - 29)) d]) x 25, []) := by kernel_rfl
omit [GT] in
theorem k_round25 (kb W : Nat → Int) (x : Int) (n : Nat) : runN tyT kO kH [(18, 5)] 2000 2 [248] [3, 5, 7, 8] (inAt fRK 9 [] n) (kS kb W x 25) = some (hdAt fRK 9 [] n, kS kb (updW W 25 (kW W x 25)) (kX x 25) 26, kP1 W 25) := by kernel_rfl
omit [GT] in
theorem k_round26 (kb W : Nat → Int) (x : Int) (n : Nat) : runN tyT kO kH [(18, 5)] 2000 2 [248] [3, 5, 7, 8] (inAt fRK 9 [] n) (kS kb W x 26) = some (hdAt fRK 9 [] n, kS kb (updW W 26 (kW W x 26)) (kX x 26) 27, kP1 W 26) := by kernel_rfl
omit [GT] in
theorem k_round27 (kb W : Nat → Int) (x : Int) (n : Nat) : runN tyT kO kH [(18, 5)] 2000 2 [248] [3, 5, 7, 8] (inAt fRK 9 [] n) (kS kb W x 27) = some (hdAt fRK 9 [] n, kS kb (updW W 27 (kW W x 27)) (kX x 27) 28, kP1 W 27) := by kernel_rfl
omit [GT] in
theorem k_round28 (kb W : Nat → Int) (x : Int) (n : Nat) : runN tyT kO kH [(18, 5)] 2000 2 [336] [3, 5, 7, 8] (inAt fRK 9 [] n) (kS kb W x 28) = some (hdAt fRK 9 [] n, kS kb (updW W 28 (kW W x 28)) (kX x 28) 29, kP4 W 28) := by kernel_rfl
omit [GT] in
theorem k_round29 (kb W : Nat → Int) (x : Int) (n : Nat) : runN tyT kO kH [(18, 5)] 2000 2 [248] [3, 5, 7, 8] (inAt fRK 9 [] n) (kS kb W x 29) = some (hdAt fRK 9 [] n, kS kb (updW W 29 (kW W x 29)) (kX x 29) 30, kP1 W 29) := by kernel_rfl
omit [GT] in
theorem k_round30 (kb W : Nat → Int) (x : Int) (n : Nat) : runN tyT kO kH [(18, 5)] 2000 2 [248] [3, 5, 7, 8] (inAt fRK 9 [] n) (kS kb W x 30) = some (hdAt fRK 9 [] n, kS kb (updW W 30 (kW W x 30)) (kX x 30) 31, kP1 W 30) := by kernel_rfl
omit [GT] in
theorem k_round31 (kb W : Nat → Int) (x : Int) (n : Nat) : runN tyT kO kH [(18, 5)] 2000 2 [248] [3, 5, 7, 8] (inAt fRK 9 [] n) (kS kb W x 31) = some (hdAt fRK 9 [] n, kS kb (updW W 31 (kW W x 31)) (kX x 31) 32, kP1 W 31) := by kernel_rfl
omit [GT] in
theorem k_roundA32 (kb W : Nat → Int) (x : Int) (n : Nat) : runN tyT kO kH [] 2000 2 [2, 93] [3, 5, 7, 8, 9, 10] (inAt fRK 9 [] n) (kS kb W x 32) = some (toAt fRK 18 [n], kM kb W (pT x 2) 32 (g2 (kT W x 32) 0) (g2 (kT W x 32) 1) (g2 (kT W x 32) 2) (g2 (kT W x 32) 3), kP0 W 32) := by kernel_rfl
omit [GT] in
theorem k_roundB32 (kb W : Nat → Int) (x a b c d : Int) (n : Nat) : runN tyT kO noH [(18, 5)] 2000 2 [247] [3, 5, 7, 8] (toAt fRK 18 [n]) (kM kb W x 32 a b c d) = some (hdAt fRK 9 [] n, kS kb (updW W 32 [xo (W (4 * 32 - 32)) a, xo (W (4 * 32 - 31)) b, xo (W (4 * 32 - 30)) c, xo (W (4 * 32 - 29)) d]) x 33, []) := by kernel_rfl
omit [GT] in
theorem k_round33 (kb W : Nat → Int) (x : Int) (n : Nat) : runN tyT kO kH [(18, 5)] 2000 2 [248] [3, 5, 7, 8] (inAt fRK 9 [] n) (kS kb W x 33) = some (hdAt fRK 9 [] n, kS kb (updW W 33 (kW W x 33)) (kX x 33) 34, kP1 W 33) := by kernel_rfl
omit [GT] in
theorem k_round34 (kb W : Nat → Int) (x : Int) (n : Nat) : runN tyT kO kH [(18, 5)] 2000 2 [248] [3, 5, 7, 8] (inAt fRK 9 [] n) (kS kb W x 34) = some (hdAt fRK 9 [] n, kS kb (updW W 34 (kW W x 34)) (kX x 34) 35, kP1 W 34) := by kernel_rfl
omit [GT] in
theorem k_round35 (kb W : Nat → Int) (x : Int) (n : Nat) : runN tyT kO kH [(18, 5)] 2000 2 [248] [3, 5, 7, 8] (inAt fRK 9 [] n) (kS kb W x 35) = some (hdAt fRK 9 [] n, kS kb (updW W 35 (kW W x 35)) (kX x 35) 36, kP1 W 35) := by kernel_rfl
omit [GT] in
theorem k_round36 (kb W : Nat → Int) (x : Int) (n : Nat) : runN tyT kO kH [(18, 5)] 2000 2 [336] [3, 5, 7, 8] (inAt fRK 9 [] n) (kS kb W x 36) = some (hdAt fRK 9 [] n, kS kb (updW W 36 (kW W x 36)) (kX x 36) 37, kP4 W 36) := by kernel_rfl
omit [GT] in
theorem k_round37 (kb W : Nat → Int) (x : Int) (n : Nat) : runN tyT kO kH [(18, 5)] 2000 2 [248] [3, 5, 7, 8] (inAt fRK 9 [] n) (kS kb W x 37) = some (hdAt fRK 9 [] n, kS kb (updW W 37 (kW W x 37)) (kX x 37) 38, kP1 W 37) := by kernel_rfl
omit [GT] in
theorem k_round38 (kb W : Nat → Int) (x : Int) (n : Nat) : runN tyT kO kH [(18, 5)] 2000 2 [248] [3, 5, 7, 8] (inAt fRK 9 [] n) (kS kb W x 38) = some (hdAt fRK 9 [] n, kS kb (updW W 38 (kW W x 38)) (kX x 38) 39, kP1 W 38) := by kernel_rfl
omit [GT] in
theorem k_round39 (kb W : Nat → Int) (x : Int) (n : Nat) : runN tyT kO kH [(18, 5)] 2000 2 [248] [3, 5, 7, 8] (inAt fRK 9 [] n) (kS kb W x 39) = some (hdAt fRK 9 [] n, kS kb (updW W 39 (kW W x 39)) (kX x 39) 40, kP1 W 39) := by kernel_rfl
omit [GT] in
theorem k_roundA40 (kb W : Nat → Int) (x : Int) (n : Nat) : runN tyT kO kH [] 2000 2 [2, 93] [3, 5, 7, 8, 9, 10] (inAt fRK 9 [] n) (kS kb W x 40) = some (toAt fRK 18 [n], kM kb W (pT x 2) 40 (g2 (kT W x 40) 0) (g2 (kT W x 40) 1) (g2 (kT W x 40) 2) (g2 (kT W x 40) 3), kP0 W 40) := by kernel_rfl
omit [GT] in
theorem k_roundB40 (kb W : Nat → Int) (x a b c d : Int) (n : Nat) : runN tyT kO noH [(18, 5)] 2000 2 [247] [3, 5, 7, 8] (toAt fRK 18 [n]) (kM kb W x 40 a b c d) = some (hdAt fRK 9 [] n, kS kb (updW W 40 [xo (W (4 * 40 - 32)) a, xo (W (4 * 40 - 31)) b, xo (W (4 * 40 - 30)) c, xo (W (4 * 40 - 29)) d]) x 41, []) := by kernel_rfl
omit [GT] in
theorem k_round41 (kb W : Nat → Int) (x : Int) (n : Nat) : runN tyT kO kH [(18, 5)] 2000 2 [248] [3, 5, 7, 8] (inAt fRK 9 [] n) (kS kb W x 41) = some (hdAt fRK 9 [] n, kS kb (updW W 41 (kW W x 41)) (kX x 41) 42, kP1 W 41) := by kernel_rfl
omit [GT] in
theorem k_round42 (kb W : Nat → Int) (x : Int) (n : Nat) : runN tyT kO kH [(18, 5)] 2000 2 [248] [3, 5, 7, 8] (inAt fRK 9 [] n) (kS kb W x 42) = some (hdAt fRK 9 [] n, kS kb (updW W 42 (kW W x 42)) (kX x 42) 43, kP1 W 42) := by kernel_rfl
omit [GT] in
theorem k_round43 (kb W : Nat → Int) (x : Int) (n : Nat) : runN tyT kO kH [(18, 5)] 2000 2 [248] [3, 5, 7, 8] (inAt fRK 9 [] n) (kS kb W x 43) = some (hdAt fRK 9 [] n, kS kb (updW W 43 (kW W x 43)) (kX x 43) 44, kP1 W 43) := by kernel_rfl
omit [GT] in
theorem k_round44 (kb W : Nat → Int) (x : Int) (n : Nat) : runN tyT kO kH [(18, 5)] 2000 2 [336] [3, 5, 7, 8] (inAt fRK 9 [] n) (kS kb W x 44) = some (hdAt fRK 9 [] n, kS kb (updW W 44 (kW W x 44)) (kX x 44) 45, kP4 W 44) := by kernel_rfl
omit [GT] in
theorem k_round45 (kb W : Nat → Int) (x : Int) (n : Nat) : runN tyT kO kH [(18, 5)] 2000 2 [248] [3, 5, 7, 8] (inAt fRK 9 [] n) (kS kb W x 45) = some (hdAt fRK 9 [] n, kS kb (updW W 45 (kW W x 45)) (kX x 45) 46, kP1 W 45) := by kernel_rfl
omit [GT] in
theorem k_round46 (kb W : Nat → Int) (x : Int) (n : Nat) : runN tyT kO kH [(18, 5)] 2000 2 [248] [3, 5, 7, 8] (inAt fRK 9 [] n) (kS kb W x 46) = some (hdAt fRK 9 [] n, kS kb (updW W 46 (kW W x 46)) (kX x 46) 47, kP1 W 46) := by kernel_rfl
omit [GT] in
theorem k_round47 (kb W : Nat → Int) (x : Int) (n : Nat) : runN tyT kO kH [(18, 5)] 2000 2 [248] [3, 5, 7, 8] (inAt fRK 9 [] n) (kS kb W x 47) = some (hdAt fRK 9 [] n, kS kb (updW W 47 (kW W x 47)) (kX x 47) 48, kP1 W 47) := by kernel_rfl
omit [GT] in
theorem k_roundA48 (kb W : Nat → Int) (x : Int) (n : Nat) : runN tyT kO kH [] 2000 2 [2, 93] [3, 5, 7, 8, 9, 10] (inAt fRK 9 [] n) (kS kb W x 48) = some (toAt fRK 18 [n], kM kb W (pT x 2) 48 (g2 (kT W x 48) 0) (g2 (kT W x 48) 1) (g2 (kT W x 48) 2) (g2 (kT W x 48) 3), kP0 W 48) := by kernel_rfl
omit [GT] in
theorem k_roundB48 (kb W : Nat → Int) (x a b c d : Int) (n : Nat) : runN tyT kO noH [(18, 5)] 2000 2 [247] [3, 5, 7, 8] (toAt fRK 18 [n]) (kM kb W x 48 a b c d) = some (hdAt fRK 9 [] n, kS kb (updW W 48 [xo (W (4 * 48 - 32)) a, xo (W (4 * 48 - 31)) b, xo (W (4 * 48 - 30)) c, xo (W (4 * 48 - 29)) d]) x 49, []) := by kernel_rfl
omit [GT] in
theorem k_round49 (kb W : Nat → Int) (x : Int) (n : Nat) : runN tyT kO kH [(18, 5)] 2000 2 [248] [3, 5, 7, 8] (inAt fRK 9 [] n) (kS kb W x 49) = some (hdAt fRK 9 [] n, kS kb (updW W 49 (kW W x 49)) (kX x 49) 50, kP1 W 49) := by kernel_rfl
omit [GT] in
theorem k_round50 (kb W : Nat → Int) (x : Int) (n : Nat) : runN tyT kO kH [(18, 5)] 2000 2 [248] [3, 5, 7, 8] (inAt fRK 9 [] n) (kS kb W x 50) = some (hdAt fRK 9 [] n, kS kb (updW W 50 (kW W x 50)) (kX x 50) 51, kP1 W 50) := by kernel_rfl
omit [GT] in
theorem k_round51 (kb W : Nat → Int) (x : Int) (n : Nat) : runN tyT kO kH [(18, 5)] 2000 2 [248] [3, 5, 7, 8] (inAt fRK 9 [] n) (kS kb W x 51) = some (hdAt fRK 9 [] n, kS kb (updW W 51 (kW W x 51)) (kX x 51) 52, kP1 W 51) := by kernel_rfl
omit [GT] in
theorem k_round52 (kb W : Nat → Int) (x : Int) (n : Nat) : runN tyT kO kH [(18, 5)] 2000 2 [336] [3, 5, 7, 8] (inAt fRK 9 [] n) (kS kb W x 52) = some (hdAt fRK 9 [] n, kS kb (updW W 52 (kW W x 52)) (kX x 52) 53, kP4 W 52) := by kernel_rfl
omit [GT] in
theorem k_round53 (kb W : Nat → Int) (x : Int) (n : Nat) : runN tyT kO kH [(18, 5)] 2000 2 [248] [3, 5, 7, 8] (inAt fRK 9 [] n) (kS kb W x 53) = some (hdAt fRK 9 [] n, kS kb (updW W 53 (kW W x 53)) (kX x 53) 54, kP1 W 53) := by kernel_rfl
omit [GT] in
theorem k_round54 (kb W : Nat → Int) (x : Int) (n : Nat) : runN tyT kO kH [(18, 5)] 2000 2 [248] [3, 5, 7, 8] (inAt fRK 9 [] n) (kS kb W x 54) = some (hdAt fRK 9 [] n, kS kb (updW W 54 (kW W x 54)) (kX x 54) 55, kP1 W 54) := by kernel_rfl
omit [GT] in
theorem k_round55 (kb W : Nat → Int) (x : Int) (n : Nat) : runN tyT kO kH [(18, 5)] 2000 2 [248] [3, 5, 7, 8] (inAt fRK 9 [] n) (kS kb W x 55) = some (hdAt fRK 9 [] n, kS kb (updW W 55 (kW W x 55)) (kX x 55) 56, kP1 W 55) := by kernel_rfl
omit [GT] in
theorem k_roundA56 (kb W : Nat → Int) (x : Int) (n : Nat) : runN tyT kO kH [] 2000 2 [2, 93] [3, 5, 7, 8, 9, 10] (inAt fRK 9 [] n) (kS kb W x 56) = some (toAt fRK 18 [n], kM kb W (pT x 2) 56 (g2 (kT W x 56) 0) (g2 (kT W x 56) 1) (g2 (kT W x 56) 2) (g2 (kT W x 56) 3), kP0 W 56) := by kernel_rfl
omit [GT] in
theorem k_roundB56 (kb W : Nat → Int) (x a b c d : Int) (n : Nat) : runN tyT kO noH [(18, 5)] 2000 2 [247] [3, 5, 7, 8] (toAt fRK 18 [n]) (kM kb W x 56 a b c d) = some (hdAt fRK 9 [] n, kS kb (updW W 56 [xo (W (4 * 56 - 32)) a, xo (W (4 * 56 - 31)) b, xo (W (4 * 56 - 30)) c, xo (W (4 * 56 - 29)) d]) x 57, []) := by kernel_rfl
omit [GT] in
theorem k_round57 (kb W : Nat → Int) (x : Int) (n : Nat) : runN tyT kO kH [(18, 5)] 2000 2 [248] [3, 5, 7, 8] (inAt fRK 9 [] n) (kS kb W x 57) = some (hdAt fRK 9 [] n, kS kb (updW W 57 (kW W x 57)) (kX x 57) 58, kP1 W 57) := by kernel_rfl
omit [GT] in
theorem k_round58 (kb W : Nat → Int) (x : Int) (n : Nat) : runN tyT kO kH [(18, 5)] 2000 2 [248] [3, 5, 7, 8] (inAt fRK 9 [] n) (kS kb W x 58) = some (hdAt fRK 9 [] n, kS kb (updW W 58 (kW W x 58)) (kX x 58) 59, kP1 W 58) := by kernel_rfl
omit [GT] in
theorem k_round59 (kb W : Nat → Int) (x : Int) (n : Nat) : runN tyT kO kH [(18, 5)] 2000 2 [248] [3, 5, 7, 8] (inAt fRK 9 [] n) (kS kb W x 59) = some (hdAt fRK 9 [] n, kS kb (updW W 59 (kW W x 59)) (kX x 59) 60, kP1 W 59) := by kernel_rfl
omit [GT] in
def kEnd (kb W : Nat → Int) : St := { tm := tmL 111 [(4, .av (.one (.r 2 0 240 0)))], hp := [(0, ⟨2, 0, [.arr .u8 (keyL 32 kb)]⟩), (1, ⟨0, 29, [.arr .i64 sbox]⟩), (2, ⟨1, 3, [.arr .i64 (keyL 240 W)]⟩)], nx := 3, gl := [] }
omit [GT] in
theorem k_end (kb W : Nat → Int) (x : Int) (n : Nat) : runN tyT kO noH [] 2000 2 [2] [4] (inAt fRK 9 [] n) (kS kb W x 60) = some ([.fin], kEnd kb W, []) := by kernel_rfl
end Go.Proofs.Ytkoackalpcmhaaa.Am
/- The reference's block, round by round. Conditions: none. -/
namespace Go.Proofs.Ytkoackalpcmhaaa.Am
set_option linter.unusedVariables false
set_option linter.unusedSimpArgs false
open Go Go.RowKit
variable [GT]

omit [GT] in
noncomputable abbrev fRB : Func := Try.f14
omit [GT] in
def rbS (W S : Nat → Int) (r : Nat) : St := { tm := tmL 127 [(0, .av (.one (.r 0 0 240 0))), (4, .av (.one (.p 1 0))), (6, .av (.one (.p 2 0))), (7, .av (.one (.p 3 0))), (9, ofV (.int .i64 r))], hp := [(0, ⟨2, 0, [.arr .i64 (keyL 240 W)]⟩), (1, ⟨0, 29, [.arr .i64 sbox]⟩), (2, ⟨0, 23, [.arr .u8 (List.replicate 16 0)]⟩), (3, ⟨0, 62, [.arr .i64 (keyL 16 S)]⟩)], nx := 4, gl := [] }
omit [GT] in
def rb0 (W bf : Nat → Int) (j : Nat) : Int := xo (IntKind.i64.wrap (bf j)) (W j)
omit [GT] in
def rbT (S : Nat → Int) (j : Nat) : Int := sb (S ((j + 4 * (j % 4)) % 16))
omit [GT] in
def rbV (S : Nat → Int) (j : Nat) : Int := xo (xo (xo (pT (rbT S j) 2) (pT (rbT S (4 * (j / 4) + (j % 4 + 1) % 4)) 3)) (rbT S (4 * (j / 4) + (j % 4 + 2) % 4))) (rbT S (4 * (j / 4) + (j % 4 + 3) % 4))
omit [GT] in
def rbR (W S : Nat → Int) (r j : Nat) : Int := xo (rbV S j) (W (16 * r + j))
omit [GT] in
def rbL (W S : Nat → Int) (j : Nat) : Int := xo (rbT S j) (W (16 * 14 + j))
omit [GT] in
def rbQ (S : Nat → Int) : Nat → Nat → List Prop
  | _, 0 => []
  | j, n + 1 => inR (S ((j + 4 * (j % 4)) % 16)) :: ((S ((j + 4 * (j % 4)) % 16)).toNat < sbox.length) :: rbQ S (j + 1) n
omit [GT] in
def rbU : Nat → List Prop
  | 0 => []
  | n + 1 => ((0 : Int) ≤ 2 ∧ (2 : Int) < 256) :: ((0 : Int) ≤ 3 ∧ (3 : Int) < 256) :: rbU n
omit [GT] in
def rbP (S : Nat → Int) (n : Nat) : List Prop := rbQ S 0 16 ++ rbU n
omit [GT] in
def rbLH : List (Nat × Nat) := [(12, 17), (17, 5), (20, 5)]
omit [GT] in
def rbH : Nat → Nat → Hint := atH 14 9 symH (atH 14 10 symH noH)
omit [GT] in
theorem rb_start (W bf : Nat → Int) : runF tyT kO noH [(3, 17)] 1 [1, 3, 4] [0, 4, 6, 7, 9] fRB (canA [.sl .i64 (keyL 240 W), .ag .i64 sbox, .ag .u8 (keyL 16 bf)] 0) (canH [.sl .i64 (keyL 240 W), .ag .i64 sbox, .ag .u8 (keyL 16 bf)] 0 ++ gH [] 1) 1 [] = some (toAt fRB 8 [], rbS W (rb0 W bf) 1, []) := by kernel_rfl
omit [GT] in
theorem rb_round1 (W S : Nat → Int) (n : Nat) : runN tyT kO rbH rbLH 5000 4 [] [0, 4, 6, 7, 9] (inAt fRB 8 [] n) (rbS W S 1) = some (hdAt fRB 8 [] n, rbS W (rbR W S 1) 2, rbP S 16) := by kernel_rfl
omit [GT] in
theorem rb_round2 (W S : Nat → Int) (n : Nat) : runN tyT kO rbH rbLH 5000 4 [] [0, 4, 6, 7, 9] (inAt fRB 8 [] n) (rbS W S 2) = some (hdAt fRB 8 [] n, rbS W (rbR W S 2) 3, rbP S 16) := by kernel_rfl
omit [GT] in
theorem rb_round3 (W S : Nat → Int) (n : Nat) : runN tyT kO rbH rbLH 5000 4 [] [0, 4, 6, 7, 9] (inAt fRB 8 [] n) (rbS W S 3) = some (hdAt fRB 8 [] n, rbS W (rbR W S 3) 4, rbP S 16) := by kernel_rfl
omit [GT] in
theorem rb_round4 (W S : Nat → Int) (n : Nat) : runN tyT kO rbH rbLH 5000 4 [] [0, 4, 6, 7, 9] (inAt fRB 8 [] n) (rbS W S 4) = some (hdAt fRB 8 [] n, rbS W (rbR W S 4) 5, rbP S 16) := by kernel_rfl
omit [GT] in
theorem rb_round5 (W S : Nat → Int) (n : Nat) : runN tyT kO rbH rbLH 5000 4 [] [0, 4, 6, 7, 9] (inAt fRB 8 [] n) (rbS W S 5) = some (hdAt fRB 8 [] n, rbS W (rbR W S 5) 6, rbP S 16) := by kernel_rfl
omit [GT] in
theorem rb_round6 (W S : Nat → Int) (n : Nat) : runN tyT kO rbH rbLH 5000 4 [] [0, 4, 6, 7, 9] (inAt fRB 8 [] n) (rbS W S 6) = some (hdAt fRB 8 [] n, rbS W (rbR W S 6) 7, rbP S 16) := by kernel_rfl
omit [GT] in
theorem rb_round7 (W S : Nat → Int) (n : Nat) : runN tyT kO rbH rbLH 5000 4 [] [0, 4, 6, 7, 9] (inAt fRB 8 [] n) (rbS W S 7) = some (hdAt fRB 8 [] n, rbS W (rbR W S 7) 8, rbP S 16) := by kernel_rfl
omit [GT] in
theorem rb_round8 (W S : Nat → Int) (n : Nat) : runN tyT kO rbH rbLH 5000 4 [] [0, 4, 6, 7, 9] (inAt fRB 8 [] n) (rbS W S 8) = some (hdAt fRB 8 [] n, rbS W (rbR W S 8) 9, rbP S 16) := by kernel_rfl
omit [GT] in
theorem rb_round9 (W S : Nat → Int) (n : Nat) : runN tyT kO rbH rbLH 5000 4 [] [0, 4, 6, 7, 9] (inAt fRB 8 [] n) (rbS W S 9) = some (hdAt fRB 8 [] n, rbS W (rbR W S 9) 10, rbP S 16) := by kernel_rfl
omit [GT] in
theorem rb_round10 (W S : Nat → Int) (n : Nat) : runN tyT kO rbH rbLH 5000 4 [] [0, 4, 6, 7, 9] (inAt fRB 8 [] n) (rbS W S 10) = some (hdAt fRB 8 [] n, rbS W (rbR W S 10) 11, rbP S 16) := by kernel_rfl
omit [GT] in
theorem rb_round11 (W S : Nat → Int) (n : Nat) : runN tyT kO rbH rbLH 5000 4 [] [0, 4, 6, 7, 9] (inAt fRB 8 [] n) (rbS W S 11) = some (hdAt fRB 8 [] n, rbS W (rbR W S 11) 12, rbP S 16) := by kernel_rfl
omit [GT] in
theorem rb_round12 (W S : Nat → Int) (n : Nat) : runN tyT kO rbH rbLH 5000 4 [] [0, 4, 6, 7, 9] (inAt fRB 8 [] n) (rbS W S 12) = some (hdAt fRB 8 [] n, rbS W (rbR W S 12) 13, rbP S 16) := by kernel_rfl
omit [GT] in
theorem rb_round13 (W S : Nat → Int) (n : Nat) : runN tyT kO rbH rbLH 5000 4 [] [0, 4, 6, 7, 9] (inAt fRB 8 [] n) (rbS W S 13) = some (hdAt fRB 8 [] n, rbS W (rbR W S 13) 14, rbP S 16) := by kernel_rfl
omit [GT] in
theorem rb_round14 (W S : Nat → Int) (n : Nat) : runN tyT kO rbH rbLH 5000 4 [] [0, 4, 6, 7, 9] (inAt fRB 8 [] n) (rbS W S 14) = some (hdAt fRB 8 [] n, rbS W (rbL W S) 15, rbP S 0) := by kernel_rfl
omit [GT] in
def rbEnd (W S : Nat → Int) : St := { tm := tmL 127 [(6, .av (.one (.p 1 0)))], hp := [(0, ⟨2, 0, [.arr .i64 (keyL 240 W)]⟩), (1, ⟨0, 23, [.arr .u8 (keyL 16 fun j => IntKind.u8.wrap (S j))]⟩)], nx := 2, gl := [] }
omit [GT] in
theorem rb_end (W S : Nat → Int) (n : Nat) : runN tyT kO noH [(28, 17)] 5000 1 [2] [6] (inAt fRB 8 [] n) (rbS W S 15) = some ([.fin], rbEnd W S, []) := by kernel_rfl
end Go.Proofs.Ytkoackalpcmhaaa.Am
/- Bytes as vectors of bits: a column, mixed, is told by what it is mixed to. Conditions: none. -/
namespace Go.Proofs.Ytkoackalpcmhaaa.Pla
set_option linter.unusedVariables false
set_option linter.unusedSimpArgs false
def xt (v : BitVec 8) : BitVec 8 := (v <<< 1) ^^^ (if v.msb then 27#8 else 0#8)
theorem xt_lin (u v : BitVec 8) : xt (u ^^^ v) = xt u ^^^ xt v := by
  unfold xt
  rw [BitVec.shiftLeft_xor_distrib, BitVec.msb_xor]
  have key : ∀ p q : Bool, (if (p ^^ q) = true then 27#8 else 0#8) = (if p = true then 27#8 else 0#8) ^^^ (if q = true then 27#8 else 0#8) := by decide
  rw [key]
  ac_rfl
theorem xt_zero : xt 0#8 = 0#8 := by decide
/-- A column, mixed: its first byte. -/
def mx (a b c d : BitVec 8) : BitVec 8 := xt a ^^^ xt b ^^^ b ^^^ c ^^^ d
theorem mx_lin (a b c d a' b' c' d' : BitVec 8) : mx (a ^^^ a') (b ^^^ b') (c ^^^ c') (d ^^^ d') = mx a b c d ^^^ mx a' b' c' d' := by
  unfold mx
  rw [xt_lin, xt_lin]
  ac_rfl
theorem xor_zero_eq {u v : BitVec 8} (h : u ^^^ v = 0#8) : u = v := by
  have : u ^^^ v ^^^ v = v := by rw [h, BitVec.zero_xor]
  rwa [BitVec.xor_assoc, BitVec.xor_self, BitVec.xor_zero] at this
theorem mx_ker {a b c d : BitVec 8} (h0 : mx a b c d = 0#8) (h1 : mx b c d a = 0#8) (h2 : mx c d a b = 0#8) (h3 : mx d a b c = 0#8) : a = 0#8 ∧ b = 0#8 ∧ c = 0#8 ∧ d = 0#8 := by
  have hs : a ^^^ b ^^^ c ^^^ d = 0#8 := by
    have e : mx a b c d ^^^ mx b c d a ^^^ mx c d a b ^^^ mx d a b c = (xt a ^^^ xt a) ^^^ (xt b ^^^ xt b) ^^^ (xt c ^^^ xt c) ^^^ (xt d ^^^ xt d) ^^^ ((a ^^^ a) ^^^ (b ^^^ b) ^^^ (c ^^^ c) ^^^ (d ^^^ d)) ^^^ (a ^^^ b ^^^ c ^^^ d) := by
      unfold mx
      ac_rfl
    rw [h0, h1, h2, h3] at e
    simp only [BitVec.xor_self, BitVec.zero_xor] at e
    exact e.symm
  have k0 : a = xt (a ^^^ b) := by
    have e : mx a b c d = (xt (a ^^^ b) ^^^ a) ^^^ (a ^^^ b ^^^ c ^^^ d) := by
      unfold mx
      rw [xt_lin]
      have : a ^^^ a = 0#8 := BitVec.xor_self
      calc xt a ^^^ xt b ^^^ b ^^^ c ^^^ d = xt a ^^^ xt b ^^^ b ^^^ c ^^^ d ^^^ 0#8 := by rw [BitVec.xor_zero]
        _ = xt a ^^^ xt b ^^^ b ^^^ c ^^^ d ^^^ (a ^^^ a) := by rw [this]
        _ = _ := by ac_rfl
    rw [h0, hs, BitVec.xor_zero] at e
    exact (xor_zero_eq e.symm).symm
  have k1 : b = xt (b ^^^ c) := by
    have e : mx b c d a = (xt (b ^^^ c) ^^^ b) ^^^ (a ^^^ b ^^^ c ^^^ d) := by
      unfold mx
      rw [xt_lin]
      have : b ^^^ b = 0#8 := BitVec.xor_self
      calc xt b ^^^ xt c ^^^ c ^^^ d ^^^ a = xt b ^^^ xt c ^^^ c ^^^ d ^^^ a ^^^ 0#8 := by rw [BitVec.xor_zero]
        _ = xt b ^^^ xt c ^^^ c ^^^ d ^^^ a ^^^ (b ^^^ b) := by rw [this]
        _ = _ := by ac_rfl
    rw [h1, hs, BitVec.xor_zero] at e
    exact (xor_zero_eq e.symm).symm
  have k2 : c = xt (c ^^^ d) := by
    have e : mx c d a b = (xt (c ^^^ d) ^^^ c) ^^^ (a ^^^ b ^^^ c ^^^ d) := by
      unfold mx
      rw [xt_lin]
      have : c ^^^ c = 0#8 := BitVec.xor_self
      calc xt c ^^^ xt d ^^^ d ^^^ a ^^^ b = xt c ^^^ xt d ^^^ d ^^^ a ^^^ b ^^^ 0#8 := by rw [BitVec.xor_zero]
        _ = xt c ^^^ xt d ^^^ d ^^^ a ^^^ b ^^^ (c ^^^ c) := by rw [this]
        _ = _ := by ac_rfl
    rw [h2, hs, BitVec.xor_zero] at e
    exact (xor_zero_eq e.symm).symm
  have k3 : d = xt (d ^^^ a) := by
    have e : mx d a b c = (xt (d ^^^ a) ^^^ d) ^^^ (a ^^^ b ^^^ c ^^^ d) := by
      unfold mx
      rw [xt_lin]
      have : d ^^^ d = 0#8 := BitVec.xor_self
      calc xt d ^^^ xt a ^^^ a ^^^ b ^^^ c = xt d ^^^ xt a ^^^ a ^^^ b ^^^ c ^^^ 0#8 := by rw [BitVec.xor_zero]
        _ = xt d ^^^ xt a ^^^ a ^^^ b ^^^ c ^^^ (d ^^^ d) := by rw [this]
        _ = _ := by ac_rfl
    rw [h3, hs, BitVec.xor_zero] at e
    exact (xor_zero_eq e.symm).symm
  have hac : a = c := by
    refine xor_zero_eq ?_
    have e : a ^^^ c = xt (a ^^^ b ^^^ c ^^^ d) := by
      rw [show a ^^^ b ^^^ c ^^^ d = (a ^^^ b) ^^^ (c ^^^ d) by ac_rfl, xt_lin, ← k0, ← k2]
    rw [e, hs, xt_zero]
  have hbd : b = d := by
    refine xor_zero_eq ?_
    have e : b ^^^ d = xt (a ^^^ b ^^^ c ^^^ d) := by
      rw [show a ^^^ b ^^^ c ^^^ d = (b ^^^ c) ^^^ (d ^^^ a) by ac_rfl, xt_lin, ← k1, ← k3]
    rw [e, hs, xt_zero]
  subst hac hbd
  have hab : a = b := by
    refine xor_zero_eq ?_
    have e : a ^^^ b = xt ((a ^^^ b) ^^^ (b ^^^ a)) := by rw [xt_lin, ← k0, ← k1]
    rw [e, show (a ^^^ b) ^^^ (b ^^^ a) = (a ^^^ a) ^^^ (b ^^^ b) by ac_rfl, BitVec.xor_self, BitVec.xor_self, BitVec.xor_self, xt_zero]
  subst hab
  rw [BitVec.xor_self, xt_zero] at k0
  exact ⟨k0, k0, k0, k0⟩
theorem mx_inj {a b c d a' b' c' d' : BitVec 8} (h0 : mx a b c d = mx a' b' c' d') (h1 : mx b c d a = mx b' c' d' a') (h2 : mx c d a b = mx c' d' a' b') (h3 : mx d a b c = mx d' a' b' c') : a = a' ∧ b = b' ∧ c = c' ∧ d = d' := by
  obtain ⟨k0, k1, k2, k3⟩ := mx_ker (a := a ^^^ a') (b := b ^^^ b') (c := c ^^^ c') (d := d ^^^ d') (by rw [mx_lin, h0, BitVec.xor_self]) (by rw [mx_lin, h1, BitVec.xor_self]) (by rw [mx_lin, h2, BitVec.xor_self]) (by rw [mx_lin, h3, BitVec.xor_self])
  exact ⟨xor_zero_eq k0, xor_zero_eq k1, xor_zero_eq k2, xor_zero_eq k3⟩
/-! bytes as integers -/
theorem byte_bv {z : Int} (h : 0 ≤ z) (h' : z < 256) : ((BitVec.ofInt 8 z).toNat : Int) = z := by
  rw [BitVec.toNat_ofInt]
  omega
theorem bv_inj {a b : Int} (ha : 0 ≤ a ∧ a < 256) (hb : 0 ≤ b ∧ b < 256) (h : BitVec.ofInt 8 a = BitVec.ofInt 8 b) : a = b := by
  rw [← byte_bv ha.1 ha.2, ← byte_bv hb.1 hb.2, h]
theorem bv_wrap (v : BitVec 8) : BitVec.ofInt 8 (v.toNat : Int) = v := by
  apply BitVec.eq_of_toNat_eq
  rw [BitVec.toNat_ofInt]
  have := v.isLt
  omega
end Go.Proofs.Ytkoackalpcmhaaa.Pla
/- The cipher: unlike blocks are unlike as it has them. Conditions: none. -/
namespace Go.Proofs.Ytkoackalpcmhaaa.Am
set_option linter.unusedVariables false
set_option linter.unusedSimpArgs false
open Go Go.RowKit
variable [GT]
open Pla (xt mx)

omit [GT] in
def bv (z : Int) : BitVec 8 := BitVec.ofInt 8 z
theorem wrap_bv (v : BitVec 8) : IntKind.u8.wrap (v.toNat : Int) = (v.toNat : Int) := u8_small (by omega) (by have := v.isLt; omega)
theorem bx_bv (a b : Int) : bx a b = ((bv a ^^^ bv b).toNat : Int) := wrap_bv (BitVec.ofInt 8 a ^^^ BitVec.ofInt 8 b)
theorem bv_bx (a b : Int) : bv (bx a b) = bv a ^^^ bv b := by rw [bx_bv]; exact Pla.bv_wrap _
theorem bv_inj {a b : Int} (ha : inR a) (hb : inR b) (h : bv a = bv b) : a = b := Pla.bv_inj ⟨ha.1, by have := ha.1; have := ha.2; omega⟩ ⟨hb.1, by have := hb.1; have := hb.2; omega⟩ h
theorem msb_and : ∀ v : BitVec 8, ((v &&& 128#8).toNat == 0) = !v.msb := by decide +kernel
theorem ba_bv (z : Int) : (ba z 128 != 0) = (bv z).msb := by
  have e : ba z 128 = ((bv z &&& 128#8).toNat : Int) := wrap_bv (BitVec.ofInt 8 z &&& BitVec.ofInt 8 128)
  rw [e]
  have := msb_and (bv z)
  cases hm : (bv z).msb with
  | true =>
    rw [hm] at this
    simp only [Bool.not_true, beq_eq_false_iff_ne] at this
    rw [bne_iff_ne]
    omega
  | false =>
    rw [hm] at this
    simp only [Bool.not_false, beq_iff_eq] at this
    rw [this]
    rfl
theorem bv_bs (z : Int) : bv (bs z 1) = bv z <<< 1 := by
  have e : bs z 1 = (z * 2) % 256 := u8_eq (z * 2 ^ 1)
  rw [e]
  apply BitVec.eq_of_toNat_eq
  unfold bv
  rw [BitVec.toNat_shiftLeft, BitVec.toNat_ofInt, BitVec.toNat_ofInt, Nat.shiftLeft_eq]
  omega
theorem bv_tw (z : Int) : bv (tw z) = xt (bv z) := by
  unfold tw xt
  rw [ba_bv]
  cases (bv z).msb with
  | true => rw [if_pos rfl, if_pos rfl, bv_bx, bv_bs]; rfl
  | false => rw [if_neg (by decide), if_neg (by decide), bv_bs, BitVec.xor_zero]
theorem bv_zero : bv 0 = 0#8 := by decide
theorem gAdd_eq (kf g : Nat → Int) (r i : Nat) : gAdd kf r g i = bx (bx 0 (g i)) (kf (16 * r + i)) := by
  obtain ⟨c, k, hk, rfl⟩ : ∃ c k : Nat, k < 4 ∧ i = 4 * c + k := ⟨i / 4, i % 4, by omega, by omega⟩
  have e1 : (4 * c + k) / 4 = c := by omega
  have e2 : (4 * c + k) % 4 = k := by omega
  unfold gAdd wk
  rw [e1, e2]
  match k, hk with
  | 0, _ => rfl
  | 1, _ => rfl
  | 2, _ => rfl
  | 3, _ => rfl
theorem gAdd_bv (kf g : Nat → Int) (r i : Nat) : bv (gAdd kf r g i) = bv (g i) ^^^ bv (kf (16 * r + i)) := by
  rw [gAdd_eq, bv_bx, bv_bx, bv_zero, BitVec.zero_xor]
omit [GT] in
def EqOn (g h : Nat → Int) : Prop := ∀ i, i < 16 → g i = h i
omit [GT] in
def RIn (g : Nat → Int) : Prop := ∀ i, i < 16 → inR (g i)
theorem gAdd_inj {kf g h : Nat → Int} {r : Nat} (hg : RIn g) (hh : RIn h) (e : EqOn (gAdd kf r g) (gAdd kf r h)) : EqOn g h := fun i hi => by
  refine bv_inj (hg i hi) (hh i hi) ?_
  have := congrArg bv (e i hi)
  rw [gAdd_bv, gAdd_bv] at this
  have h2 := congrArg (fun v => v ^^^ bv (kf (16 * r + i))) this
  simpa only [BitVec.xor_assoc, BitVec.xor_self, BitVec.xor_zero] using h2
theorem sb_inj {a b : Int} (ha : inR a) (hb : inR b) (h : sb a = sb b) : a = b := by
  have key : (List.range 256).all (fun i => sbox.idxOf (sbox.getD i 0) == i) = true := by decide +kernel
  rw [List.all_eq_true] at key
  have h1 := key a.toNat (List.mem_range.2 (by have := ha.2; omega))
  have h2 := key b.toNat (List.mem_range.2 (by have := hb.2; omega))
  rw [beq_iff_eq] at h1 h2
  have h : sbox.getD a.toNat 0 = sbox.getD b.toNat 0 := h
  rw [h, h2] at h1
  have := ha.1
  have := hb.1
  omega
theorem sb_range (x : Int) : inR (sb x) := by
  have key : sbox.all (fun z => decide (0 ≤ z) && Nat.ble z.toNat 255) = true := by decide +kernel
  rw [List.all_eq_true] at key
  refine g2_range (fun z hz => ?_) _
  have := key z hz
  rw [Bool.and_eq_true] at this
  exact ⟨of_decide_eq_true this.1, Nat.le_of_ble_eq_true this.2⟩
theorem gRow_inj {g h : Nat → Int} (hg : RIn g) (hh : RIn h) (e : EqOn (gRow g) (gRow h)) : EqOn g h := fun j hj => by
  have h1 := e (4 * ((j / 4 + 4 - j % 4) % 4) + j % 4) (by omega)
  unfold gRow at h1
  rw [show 4 * (((4 * ((j / 4 + 4 - j % 4) % 4) + j % 4) / 4 + (4 * ((j / 4 + 4 - j % 4) % 4) + j % 4) % 4) % 4) + (4 * ((j / 4 + 4 - j % 4) % 4) + j % 4) % 4 = j by omega] at h1
  exact sb_inj (hg j hj) (hh j hj) h1
theorem mixW_bv (a b c d : Int) : bv (g2 (mixW a b c d) 0) = mx (bv a) (bv b) (bv c) (bv d) ∧ bv (g2 (mixW a b c d) 1) = mx (bv b) (bv c) (bv d) (bv a) ∧ bv (g2 (mixW a b c d) 2) = mx (bv c) (bv d) (bv a) (bv b) ∧ bv (g2 (mixW a b c d) 3) = mx (bv d) (bv a) (bv b) (bv c) := by
  refine ⟨?_, ?_, ?_, ?_⟩
  · show bv (bx (bx (bx (bx (bx 0 (tw a)) (tw b)) b) c) d) = _
    simp only [bv_bx, bv_tw, bv_zero, BitVec.zero_xor, mx]
  · show bv (bx (bx (bx (bx (bx 0 (tw b)) (tw c)) c) d) a) = _
    simp only [bv_bx, bv_tw, bv_zero, BitVec.zero_xor, mx]
  · show bv (bx (bx (bx (bx (bx 0 (tw c)) (tw d)) d) a) b) = _
    simp only [bv_bx, bv_tw, bv_zero, BitVec.zero_xor, mx]
  · show bv (bx (bx (bx (bx (bx 0 (tw d)) (tw a)) a) b) c) = _
    simp only [bv_bx, bv_tw, bv_zero, BitVec.zero_xor, mx]
theorem gMix_at (g : Nat → Int) (c k : Nat) (hk : k < 4) : gMix g (4 * c + k) = g2 (mixW (g (4 * c)) (g (4 * c + 1)) (g (4 * c + 2)) (g (4 * c + 3))) k := by
  unfold gMix
  rw [show (4 * c + k) / 4 = c by omega, show (4 * c + k) % 4 = k by omega]
theorem gMix_inj {g h : Nat → Int} (hg : RIn g) (hh : RIn h) (e : EqOn (gMix g) (gMix h)) : EqOn g h := fun i hi => by
  obtain ⟨c, k, hk, hc, rfl⟩ : ∃ c k : Nat, k < 4 ∧ c < 4 ∧ i = 4 * c + k := ⟨i / 4, i % 4, by omega, by omega, by omega⟩
  obtain ⟨a0, a1, a2, a3⟩ := mixW_bv (g (4 * c)) (g (4 * c + 1)) (g (4 * c + 2)) (g (4 * c + 3))
  obtain ⟨b0, b1, b2, b3⟩ := mixW_bv (h (4 * c)) (h (4 * c + 1)) (h (4 * c + 2)) (h (4 * c + 3))
  have e' : ∀ j, j < 4 → bv (g2 (mixW (g (4 * c)) (g (4 * c + 1)) (g (4 * c + 2)) (g (4 * c + 3))) j) = bv (g2 (mixW (h (4 * c)) (h (4 * c + 1)) (h (4 * c + 2)) (h (4 * c + 3))) j) := fun j hj => by
    rw [← gMix_at g c j hj, ← gMix_at h c j hj, e (4 * c + j) (by omega)]
  obtain ⟨k0, k1, k2, k3⟩ := Pla.mx_inj (a0.symm.trans ((e' 0 (by omega)).trans b0)) (a1.symm.trans ((e' 1 (by omega)).trans b1)) (a2.symm.trans ((e' 2 (by omega)).trans b2)) (a3.symm.trans ((e' 3 (by omega)).trans b3))
  refine bv_inj (hg _ hi) (hh _ hi) ?_
  match k, hk with
  | 0, _ => exact k0
  | 1, _ => exact k1
  | 2, _ => exact k2
  | 3, _ => exact k3
theorem gRow_in (g : Nat → Int) : RIn (gRow g) := fun i _ => sb_range _
theorem rnds_in {kf : Nat → Int} : ∀ (n r : Nat) {g : Nat → Int}, RIn g → RIn (rnds kf r n g)
  | 0, _, _, h => h
  | n + 1, r, _, _ => rnds_in n (r + 1) fun i _ => gAdd_range _ _ _ i
theorem gMix_in (g : Nat → Int) : RIn (gMix g) := fun i _ => by
  refine g2_range (fun x hx => ?_) _
  simp only [mixW, wx, List.mem_cons, List.not_mem_nil, or_false] at hx
  rcases hx with rfl | rfl | rfl | rfl <;> exact bx_range _ _
theorem rnds_inj {kf : Nat → Int} : ∀ (n r : Nat) {g h : Nat → Int}, RIn g → RIn h → EqOn (rnds kf r n g) (rnds kf r n h) → EqOn g h
  | 0, _, _, _, _, _, e => e
  | n + 1, r, g, h, hg, hh, e => gRow_inj hg hh (gMix_inj (gRow_in g) (gRow_in h) (gAdd_inj (gMix_in _) (gMix_in _) (rnds_inj n (r + 1) (fun i _ => gAdd_range _ _ _ i) (fun i _ => gAdd_range _ _ _ i) e)))
theorem enc_inj {ks a b : List Int} (ha : a.length = 16) (hb : b.length = 16) (ra : ∀ j, inR (g2 a j)) (rb : ∀ j, inR (g2 b j)) (e : encL ks a = encL ks b) : a = b := by
  have e1 : EqOn (encG (g2 ks) (g2 a)) (encG (g2 ks) (g2 b)) := fun i hi => by
    have := congrArg (fun l => g2 l i) e
    unfold encL at this
    simp only [g2_keyL 16 _ i hi] at this
    exact this
  have hr : ∀ l, RIn (gAdd (g2 ks) 0 (g2 l)) := fun l i _ => gAdd_range _ _ _ i
  have e2 := gAdd_inj (fun i _ => ra i) (fun i _ => rb i) (rnds_inj 13 1 (hr a) (hr b) (gRow_inj (rnds_in 13 1 (hr a)) (rnds_in 13 1 (hr b)) (gAdd_inj (gRow_in _) (gRow_in _) e1)))
  rw [← keyL_g2 ha, ← keyL_g2 hb]
  exact keyL_congr e2
theorem enc_beq {ks a b : List Int} (ha : a.length = 16) (hb : b.length = 16) (ra : ∀ j, inR (g2 a j)) (rb : ∀ j, inR (g2 b j)) : ((encL ks a == encL ks b) == (a == b)) = true := by
  by_cases h : a = b
  · subst h; simp
  · have h2 : encL ks a ≠ encL ks b := fun e => h (enc_inj ha hb ra rb e)
    rw [beq_eq_false_iff_ne.2 h2, beq_eq_false_iff_ne.2 h]
    rfl
theorem lawOthers_run (kf af bf : Nat → Int) : wholeV tyT mO (atH 4 17 (isB true) noH) [] 1000 Try.f5 [.av (.one (.arr .u8 (keyL 32 kf))), .av (.one (.arr .u8 (keyL 16 af))), .av (.one (.arr .u8 (keyL 16 bf)))] = some (ofV (.bool true), [32 ≤ 32 ∧ ∀ j, j < 32 → inR (g2 (keyL 32 kf) (0 + j)), sbox = sbox, sbox = sbox, isA ((encL (keyL 240 (schedW (keyL 32 kf) 0)) (keyL 16 af) == encL (keyL 240 (schedW (keyL 32 kf) 0)) (keyL 16 bf)) == (keyL 16 af == keyL 16 bf)) true]) := by
  kernel_rfl
theorem lawOthers_fact (ks a b : List Int) (lk : ks.length = 32) (la : a.length = 16) (lb : b.length = 16) (wk : ∀ z ∈ ks, (Lit.int .u8 z).wf = true) (wa : ∀ z ∈ a, (Lit.int .u8 z).wf = true) (wb : ∀ z ∈ b, (Lit.int .u8 z).wf = true) (w : World) (hgw : GWok w.heap.size [] w) : Calls Try.prog 5 #[.agg (ks.map (Value.int .u8)).toArray, .agg (a.map (Value.int .u8)).toArray, .agg (b.map (Value.int .u8)).toArray] w fun e w' => e = .returned (.bool true) ∧ Below w.heap.size w w' := by
  have := am_val tyT_ok mO_ok mixed_ Try.func5 (avs := [.av (.one (.arr .u8 (keyL 32 (g2 ks)))), .av (.one (.arr .u8 (keyL 16 (g2 a)))), .av (.one (.arr .u8 (keyL 16 (g2 b))))]) (by kernel_rfl) (lawOthers_run (g2 ks) (g2 a) (g2 b)) ⟨⟨Nat.le_refl _, fun j _ => by rw [keyL_g2 lk]; exact wf_g2 wk _⟩, rfl, rfl, fun ρ => by
    rw [keyL_g2 la, keyL_g2 lb, enc_beq la lb (wf_g2 wa) (wf_g2 wb)], trivial⟩ (by kernel_rfl) (by kernel_rfl) (fun _ => ⟨none, 0⟩) w hgw
  rw [keyL_g2 lk, keyL_g2 la, keyL_g2 lb] at this
  exact this
end Go.Proofs.Ytkoackalpcmhaaa.Am
/- The reference's key words and block are the cipher's. Conditions: none. -/
namespace Go.Proofs.Ytkoackalpcmhaaa.Am
set_option linter.unusedVariables false
set_option linter.unusedSimpArgs false
open Go Go.RowKit
open Pla (xt mx)
variable [GT]

/-! ### bytes as the reference reckons them -/
theorem inR_nat {a : Int} (h : inR a) : ∃ n : Nat, a = n ∧ n < 256 := ⟨a.toNat, by have := h.1; omega, by have := h.2; omega⟩
theorem inR_of {n : Nat} (h : n < 256) : inR (n : Int) := ⟨by omega, by omega⟩
theorem xo_in {a b : Int} (ha : inR a) (hb : inR b) : inR (xo a b) ∧ bv (xo a b) = bv a ^^^ bv b := by
  obtain ⟨m, rfl, hm⟩ := inR_nat ha
  obtain ⟨n, rfl, hn⟩ := inR_nat hb
  rw [xo_nat (by omega) (by omega)]
  refine ⟨inR_of (Nat.xor_lt_two_pow (n := 8) hm hn), ?_⟩
  unfold bv
  apply BitVec.eq_of_toNat_eq
  rw [BitVec.toNat_xor, BitVec.toNat_ofInt, BitVec.toNat_ofInt, BitVec.toNat_ofInt]
  have hx : m ^^^ n < 256 := Nat.xor_lt_two_pow (n := 8) hm hn
  have e1 : (((m ^^^ n : Nat) : Int) % ((2 ^ 8 : Nat) : Int)).toNat = m ^^^ n := by omega
  have e2 : ((m : Int) % ((2 ^ 8 : Nat) : Int)).toNat = m := by omega
  have e3 : ((n : Int) % ((2 ^ 8 : Nat) : Int)).toNat = n := by omega
  rw [e1, e2, e3]
theorem pT_fin : (List.range 256).all (fun n => (pT (n : Int) 2 == tw n) && (pT (n : Int) 3 == bx (tw n) n)) = true := by decide +kernel
theorem tw_in (a : Int) : inR (tw a) := by
  unfold tw
  split
  · exact bx_range _ _
  · unfold bs
    have : ∀ z : Int, inR (IntKind.u8.wrap z) := fun z => by
      have e : IntKind.u8.wrap z = z % 256 := by simp [IntKind.wrap, IntKind.bits, IntKind.signed]
      rw [e]
      constructor <;> omega
    exact this _
theorem pT2 {a : Int} (ha : inR a) : pT a 2 = tw a := by
  obtain ⟨n, rfl, hn⟩ := inR_nat ha
  have := List.all_eq_true.1 pT_fin n (List.mem_range.2 hn)
  rw [Bool.and_eq_true] at this
  exact beq_iff_eq.1 this.1
theorem pT3 {a : Int} (ha : inR a) : pT a 3 = bx (tw a) a := by
  obtain ⟨n, rfl, hn⟩ := inR_nat ha
  have := List.all_eq_true.1 pT_fin n (List.mem_range.2 hn)
  rw [Bool.and_eq_true] at this
  exact beq_iff_eq.1 this.2
theorem xo_bx {a b : Int} (ha : inR a) (hb : inR b) : xo a b = bx (bx 0 a) b := by
  obtain ⟨h1, h2⟩ := xo_in ha hb
  refine bv_inj h1 (bx_range _ _) ?_
  rw [h2, bv_bx, bv_bx, bv_zero, BitVec.zero_xor]
theorem bx0 {a : Int} (ha : inR a) : bx (bx 0 a) 0 = a := by
  refine bv_inj (bx_range _ _) ha ?_
  rw [bv_bx, bv_bx, bv_zero, BitVec.zero_xor, BitVec.xor_zero]
theorem i64_in {a : Int} (ha : inR a) : IntKind.i64.wrap a = a := i64_small ha.1 (by have := ha.1; have := ha.2; omega)

/-! ### the key's words -/
omit [GT] in
def kxN : Nat → Int
  | 0 => 1
  | n + 1 => kX (kxN n) (8 + n)
omit [GT] in
def ksN (kb : Nat → Int) : Nat → (Nat → Int)
  | 0 => k0W kb
  | n + 1 => updW (ksN kb n) (8 + n) (kW (ksN kb n) (kxN n) (8 + n))
theorem kxN_in : ∀ n, inR (kxN n)
  | 0 => ⟨by decide, by decide⟩
  | n + 1 => by
    have ih := kxN_in n
    unfold kxN kX
    split
    · rw [pT2 ih]; exact tw_in _
    · exact ih
theorem kT_in {W : Nat → Int} {x : Int} (hW : ∀ j, inR (W j)) (hx : inR x) (i : Nat) : ∀ z ∈ kT W x i, inR z := by
  intro z hz
  unfold kT at hz
  split at hz
  · simp only [List.mem_cons, List.not_mem_nil, or_false] at hz
    rcases hz with rfl | rfl | rfl | rfl
    · exact (xo_in (sb_range _) hx).1
    all_goals exact sb_range _
  · simp only [List.mem_cons, List.not_mem_nil, or_false] at hz
    rcases hz with rfl | rfl | rfl | rfl <;> exact sb_range _
  · simp only [List.mem_cons, List.not_mem_nil, or_false] at hz
    rcases hz with rfl | rfl | rfl | rfl <;> exact hW _
theorem kW_in {W : Nat → Int} {x : Int} (hW : ∀ j, inR (W j)) (hx : inR x) (i : Nat) : ∀ z ∈ kW W x i, inR z := by
  intro z hz
  have ht : ∀ k, inR (g2 (kT W x i) k) := fun k => g2_range (kT_in hW hx i) k
  unfold kW at hz
  simp only [List.mem_cons, List.not_mem_nil, or_false] at hz
  rcases hz with rfl | rfl | rfl | rfl <;> exact (xo_in (hW _) (ht _)).1
theorem ksN_in {kb : Nat → Int} (hk : ∀ j, inR (kb j)) : ∀ n j, inR (ksN kb n j)
  | 0, j => by
    show inR (IntKind.i64.wrap (kb j))
    rw [i64_in (hk j)]; exact hk j
  | n + 1, j => by
    unfold ksN updW
    split
    · exact g2_range (kW_in (ksN_in hk n) (kxN_in n) _) _
    · exact ksN_in hk n j
theorem lt_sbox {z : Int} (h : inR z) : z.toNat < sbox.length := by
  have := h.2
  have : sbox.length = 256 := by decide +kernel
  omega
theorem kP0_ok {W : Nat → Int} (hW : ∀ j, inR (W j)) (i : Nat) : AllP (kP0 W i) := ⟨hW _, lt_sbox (hW _), hW _, lt_sbox (hW _), hW _, lt_sbox (hW _), hW _, lt_sbox (hW _), ⟨by decide, by decide⟩, trivial⟩
theorem kP4_ok {W : Nat → Int} (hW : ∀ j, inR (W j)) (i : Nat) : AllP (kP4 W i) := AllP_append (rP_ok (hW _)) (AllP_append (rP_ok (hW _)) (AllP_append (rP_ok (hW _)) (rP_ok (hW _))))
theorem kX0 (x : Int) {i : Nat} (h : i % 8 = 0) : kX x i = pT x 2 := by
  simp only [kX, h]
theorem k_step (kb W : Nat → Int) (x : Int) (hW : ∀ j, inR (W j)) (m : Nat) : ∀ n, n < 52 → Reaches Try.prog 0 (hdAt fRK 9 [] (m + 1)) (kS kb W x (8 + n)) (hdAt fRK 9 [] m) (kS kb (updW W (8 + n) (kW W x (8 + n))) (kX x (8 + n)) (8 + n + 1))
  | 0, _ => by
    rw [kX0 x (show (8 + 0) % 8 = 0 from rfl)]
    exact Reaches.one ((Reaches.run tyT_ok kO_ok mixed_ (k_roundA8 kb W x m) (kP0_ok hW 8)).trans (Reaches.run tyT_ok kO_ok mixed_ (k_roundB8 kb W (pT x 2) _ _ _ _ m) trivial))
  | 1, _ => Reaches.one (Reaches.run tyT_ok kO_ok mixed_ (k_round9 kb W x m) trivial)
  | 2, _ => Reaches.one (Reaches.run tyT_ok kO_ok mixed_ (k_round10 kb W x m) trivial)
  | 3, _ => Reaches.one (Reaches.run tyT_ok kO_ok mixed_ (k_round11 kb W x m) trivial)
  | 4, _ => Reaches.one (Reaches.run tyT_ok kO_ok mixed_ (k_round12 kb W x m) (kP4_ok hW 12))
  | 5, _ => Reaches.one (Reaches.run tyT_ok kO_ok mixed_ (k_round13 kb W x m) trivial)
  | 6, _ => Reaches.one (Reaches.run tyT_ok kO_ok mixed_ (k_round14 kb W x m) trivial)
  | 7, _ => Reaches.one (Reaches.run tyT_ok kO_ok mixed_ (k_round15 kb W x m) trivial)
  | 8, _ => by
    rw [kX0 x (show (8 + 8) % 8 = 0 from rfl)]
    exact Reaches.one ((Reaches.run tyT_ok kO_ok mixed_ (k_roundA16 kb W x m) (kP0_ok hW 16)).trans (Reaches.run tyT_ok kO_ok mixed_ (k_roundB16 kb W (pT x 2) _ _ _ _ m) trivial))
  | 9, _ => Reaches.one (Reaches.run tyT_ok kO_ok mixed_ (k_round17 kb W x m) trivial)
  | 10, _ => Reaches.one (Reaches.run tyT_ok kO_ok mixed_ (k_round18 kb W x m) trivial)
  | 11, _ => Reaches.one (Reaches.run tyT_ok kO_ok mixed_ (k_round19 kb W x m) trivial)
  | 12, _ => Reaches.one (Reaches.run tyT_ok kO_ok mixed_ (k_round20 kb W x m) (kP4_ok hW 20))
  | 13, _ => Reaches.one (Reaches.run tyT_ok kO_ok mixed_ (k_round21 kb W x m) trivial)
  | 14, _ => Reaches.one (Reaches.run tyT_ok kO_ok mixed_ (k_round22 kb W x m) trivial)
  | 15, _ => Reaches.one (Reaches.run tyT_ok kO_ok mixed_ (k_round23 kb W x m) trivial)
  | 16, _ => by
    rw [kX0 x (show (8 + 16) % 8 = 0 from rfl)]
    exact Reaches.one ((Reaches.run tyT_ok kO_ok mixed_ (k_roundA24 kb W x m) (kP0_ok hW 24)).trans (Reaches.run tyT_ok kO_ok mixed_ (k_roundB24 kb W (pT x 2) _ _ _ _ m) trivial))
  | 17, _ => Reaches.one (Reaches.run tyT_ok kO_ok mixed_ (k_round25 kb W x m) trivial)
  | 18, _ => Reaches.one (Reaches.run tyT_ok kO_ok mixed_ (k_round26 kb W x m) trivial)
  | 19, _ => Reaches.one (Reaches.run tyT_ok kO_ok mixed_ (k_round27 kb W x m) trivial)
  | 20, _ => Reaches.one (Reaches.run tyT_ok kO_ok mixed_ (k_round28 kb W x m) (kP4_ok hW 28))
  | 21, _ => Reaches.one (Reaches.run tyT_ok kO_ok mixed_ (k_round29 kb W x m) trivial)
  | 22, _ => Reaches.one (Reaches.run tyT_ok kO_ok mixed_ (k_round30 kb W x m) trivial)
  | 23, _ => Reaches.one (Reaches.run tyT_ok kO_ok mixed_ (k_round31 kb W x m) trivial)
  | 24, _ => by
    rw [kX0 x (show (8 + 24) % 8 = 0 from rfl)]
    exact Reaches.one ((Reaches.run tyT_ok kO_ok mixed_ (k_roundA32 kb W x m) (kP0_ok hW 32)).trans (Reaches.run tyT_ok kO_ok mixed_ (k_roundB32 kb W (pT x 2) _ _ _ _ m) trivial))
  | 25, _ => Reaches.one (Reaches.run tyT_ok kO_ok mixed_ (k_round33 kb W x m) trivial)
  | 26, _ => Reaches.one (Reaches.run tyT_ok kO_ok mixed_ (k_round34 kb W x m) trivial)
  | 27, _ => Reaches.one (Reaches.run tyT_ok kO_ok mixed_ (k_round35 kb W x m) trivial)
  | 28, _ => Reaches.one (Reaches.run tyT_ok kO_ok mixed_ (k_round36 kb W x m) (kP4_ok hW 36))
  | 29, _ => Reaches.one (Reaches.run tyT_ok kO_ok mixed_ (k_round37 kb W x m) trivial)
  | 30, _ => Reaches.one (Reaches.run tyT_ok kO_ok mixed_ (k_round38 kb W x m) trivial)
  | 31, _ => Reaches.one (Reaches.run tyT_ok kO_ok mixed_ (k_round39 kb W x m) trivial)
  | 32, _ => by
    rw [kX0 x (show (8 + 32) % 8 = 0 from rfl)]
    exact Reaches.one ((Reaches.run tyT_ok kO_ok mixed_ (k_roundA40 kb W x m) (kP0_ok hW 40)).trans (Reaches.run tyT_ok kO_ok mixed_ (k_roundB40 kb W (pT x 2) _ _ _ _ m) trivial))
  | 33, _ => Reaches.one (Reaches.run tyT_ok kO_ok mixed_ (k_round41 kb W x m) trivial)
  | 34, _ => Reaches.one (Reaches.run tyT_ok kO_ok mixed_ (k_round42 kb W x m) trivial)
  | 35, _ => Reaches.one (Reaches.run tyT_ok kO_ok mixed_ (k_round43 kb W x m) trivial)
  | 36, _ => Reaches.one (Reaches.run tyT_ok kO_ok mixed_ (k_round44 kb W x m) (kP4_ok hW 44))
  | 37, _ => Reaches.one (Reaches.run tyT_ok kO_ok mixed_ (k_round45 kb W x m) trivial)
  | 38, _ => Reaches.one (Reaches.run tyT_ok kO_ok mixed_ (k_round46 kb W x m) trivial)
  | 39, _ => Reaches.one (Reaches.run tyT_ok kO_ok mixed_ (k_round47 kb W x m) trivial)
  | 40, _ => by
    rw [kX0 x (show (8 + 40) % 8 = 0 from rfl)]
    exact Reaches.one ((Reaches.run tyT_ok kO_ok mixed_ (k_roundA48 kb W x m) (kP0_ok hW 48)).trans (Reaches.run tyT_ok kO_ok mixed_ (k_roundB48 kb W (pT x 2) _ _ _ _ m) trivial))
  | 41, _ => Reaches.one (Reaches.run tyT_ok kO_ok mixed_ (k_round49 kb W x m) trivial)
  | 42, _ => Reaches.one (Reaches.run tyT_ok kO_ok mixed_ (k_round50 kb W x m) trivial)
  | 43, _ => Reaches.one (Reaches.run tyT_ok kO_ok mixed_ (k_round51 kb W x m) trivial)
  | 44, _ => Reaches.one (Reaches.run tyT_ok kO_ok mixed_ (k_round52 kb W x m) (kP4_ok hW 52))
  | 45, _ => Reaches.one (Reaches.run tyT_ok kO_ok mixed_ (k_round53 kb W x m) trivial)
  | 46, _ => Reaches.one (Reaches.run tyT_ok kO_ok mixed_ (k_round54 kb W x m) trivial)
  | 47, _ => Reaches.one (Reaches.run tyT_ok kO_ok mixed_ (k_round55 kb W x m) trivial)
  | 48, _ => by
    rw [kX0 x (show (8 + 48) % 8 = 0 from rfl)]
    exact Reaches.one ((Reaches.run tyT_ok kO_ok mixed_ (k_roundA56 kb W x m) (kP0_ok hW 56)).trans (Reaches.run tyT_ok kO_ok mixed_ (k_roundB56 kb W (pT x 2) _ _ _ _ m) trivial))
  | 49, _ => Reaches.one (Reaches.run tyT_ok kO_ok mixed_ (k_round57 kb W x m) trivial)
  | 50, _ => Reaches.one (Reaches.run tyT_ok kO_ok mixed_ (k_round58 kb W x m) trivial)
  | 51, _ => Reaches.one (Reaches.run tyT_ok kO_ok mixed_ (k_round59 kb W x m) trivial)
  | n + 52, h => absurd h (by omega)
theorem k_steps (kb : Nat → Int) (hk : ∀ j, inR (kb j)) (m : Nat) : ∀ n, n ≤ 52 → Reaches Try.prog 0 (hdAt fRK 9 [] (m + n)) (kS kb (k0W kb) 1 8) (hdAt fRK 9 [] m) (kS kb (ksN kb n) (kxN n) (8 + n))
  | 0, _ => Reaches.refl
  | n + 1, h => by
    have ih := k_steps kb hk (m + 1) n (by omega)
    rw [show m + 1 + n = m + (n + 1) by omega] at ih
    exact ih.trans (k_step kb (ksN kb n) (kxN n) (ksN_in hk n) m n (by omega))
theorem keys_ends (kb : Nat → Int) (hk : ∀ j, inR (kb j)) : Ends Try.prog tyT [] fRK [.sl .u8 (keyL 32 kb), .ag .i64 sbox] { pre := True, val := .av (.one (.r 0 0 240 0)), new := [⟨1, 3, [.arr .i64 (keyL 240 (ksN kb 52))]⟩] } := by
  refine ⟨[.fin], kEnd kb (ksN kb 52), .av (.one (.r 2 0 240 0)), [2], .inr rfl, ?_, by kernel_rfl, by kernel_rfl, by kernel_rfl⟩
  refine (From.run tyT_ok kO_ok mixed_ (k_start kb) trivial).trans (Reaches.rounds 53 ?_)
  have h1 := k_steps kb hk 1 52 (Nat.le_refl _)
  exact h1.trans (Reaches.one (Reaches.run tyT_ok kO_ok mixed_ (k_end kb (ksN kb 52) (kxN 52) 0) trivial))
omit [GT] in
def eKeysF : List CA → Option CR
  | [.sl .u8 key, .ag .i64 box] => some { pre := key.length = 32 ∧ box = sbox ∧ ∀ j, inR (g2 key j), val := .av (.one (.r 0 0 240 0)), new := [⟨1, 3, [.arr .i64 (keyL 240 (ksN (g2 key) 52))]⟩] }
  | _ => none
theorem keys_ent : EntOK Try.prog 15 (entC [.sl .u8, .ag .i64] eKeysF) := by
  refine ok_C tyT_ok Try.func15 (by kernel_rfl) (by kernel_rfl) [] (fun x hx => by cases hx) (by kernel_rfl) fun cas r hF hp => ?_
  unfold eKeysF at hF
  split at hF
  · rename_i key box
    injection hF with hF
    subst hF
    obtain ⟨h1, rfl, h3⟩ := hp
    have := keys_ends (g2 key) h3
    rw [keyL_g2 h1] at this
    exact this
  · cases hF

/-! ### the block -/
omit [GT] in
def rbN (W bf : Nat → Int) : Nat → (Nat → Int)
  | 0 => rb0 W bf
  | n + 1 => rbR W (rbN W bf n) (n + 1)
omit [GT] in
def rbF (W bf : Nat → Int) : Nat → Int := rbL W (rbN W bf 13)
theorem rbT_in (S : Nat → Int) (j : Nat) : inR (rbT S j) := sb_range _
theorem rbV_in (S : Nat → Int) (j : Nat) : inR (rbV S j) := by
  unfold rbV
  refine (xo_in (xo_in (xo_in ?_ ?_).1 (rbT_in _ _)).1 (rbT_in _ _)).1
  · rw [pT2 (rbT_in _ _)]; exact tw_in _
  · rw [pT3 (rbT_in _ _)]; exact bx_range _ _
theorem rbN_in {W bf : Nat → Int} (hW : ∀ j, inR (W j)) (hb : ∀ j, inR (bf j)) : ∀ n j, inR (rbN W bf n j)
  | 0, j => by
    show inR (xo (IntKind.i64.wrap (bf j)) (W j))
    rw [i64_in (hb j)]; exact (xo_in (hb j) (hW j)).1
  | n + 1, j => (xo_in (rbV_in _ _) (hW _)).1
theorem rbQ_ok {S : Nat → Int} (hS : ∀ j, inR (S j)) : ∀ n j, AllP (rbQ S j n)
  | 0, _ => trivial
  | n + 1, j => ⟨hS _, lt_sbox (hS _), rbQ_ok hS n (j + 1)⟩
theorem rbU_ok : ∀ n, AllP (rbU n)
  | 0 => trivial
  | n + 1 => ⟨⟨by decide, by decide⟩, ⟨by decide, by decide⟩, rbU_ok n⟩
theorem rbP_ok {S : Nat → Int} (hS : ∀ j, inR (S j)) (n : Nat) : AllP (rbP S n) := AllP_append (rbQ_ok hS 16 0) (rbU_ok n)
theorem rb_ends (W bf : Nat → Int) (hW : ∀ j, inR (W j)) (hb : ∀ j, inR (bf j)) : Ends Try.prog tyT [] fRB [.sl .i64 (keyL 240 W), .ag .i64 sbox, .ag .u8 (keyL 16 bf)] { pre := True, val := .av (.one (.arr .u8 (keyL 16 fun j => IntKind.u8.wrap (rbF W bf j)))) } := by
  refine ⟨[.fin], rbEnd W (rbF W bf), .av (.one (.arr .u8 (keyL 16 fun j => IntKind.u8.wrap (rbF W bf j)))), [], .inr rfl, ?_, by kernel_rfl, by kernel_rfl, by kernel_rfl⟩
  have hN := rbN_in hW hb
  refine (From.run tyT_ok kO_ok mixed_ (rb_start W bf) trivial).trans (Reaches.rounds 15 ?_)
  refine (Reaches.one (Reaches.run tyT_ok kO_ok mixed_ (rb_round1 W (rbN W bf 0) 14) (rbP_ok (hN 0) 16))).trans ?_
  refine (Reaches.one (Reaches.run tyT_ok kO_ok mixed_ (rb_round2 W (rbN W bf 1) 13) (rbP_ok (hN 1) 16))).trans ?_
  refine (Reaches.one (Reaches.run tyT_ok kO_ok mixed_ (rb_round3 W (rbN W bf 2) 12) (rbP_ok (hN 2) 16))).trans ?_
  refine (Reaches.one (Reaches.run tyT_ok kO_ok mixed_ (rb_round4 W (rbN W bf 3) 11) (rbP_ok (hN 3) 16))).trans ?_
  refine (Reaches.one (Reaches.run tyT_ok kO_ok mixed_ (rb_round5 W (rbN W bf 4) 10) (rbP_ok (hN 4) 16))).trans ?_
  refine (Reaches.one (Reaches.run tyT_ok kO_ok mixed_ (rb_round6 W (rbN W bf 5) 9) (rbP_ok (hN 5) 16))).trans ?_
  refine (Reaches.one (Reaches.run tyT_ok kO_ok mixed_ (rb_round7 W (rbN W bf 6) 8) (rbP_ok (hN 6) 16))).trans ?_
  refine (Reaches.one (Reaches.run tyT_ok kO_ok mixed_ (rb_round8 W (rbN W bf 7) 7) (rbP_ok (hN 7) 16))).trans ?_
  refine (Reaches.one (Reaches.run tyT_ok kO_ok mixed_ (rb_round9 W (rbN W bf 8) 6) (rbP_ok (hN 8) 16))).trans ?_
  refine (Reaches.one (Reaches.run tyT_ok kO_ok mixed_ (rb_round10 W (rbN W bf 9) 5) (rbP_ok (hN 9) 16))).trans ?_
  refine (Reaches.one (Reaches.run tyT_ok kO_ok mixed_ (rb_round11 W (rbN W bf 10) 4) (rbP_ok (hN 10) 16))).trans ?_
  refine (Reaches.one (Reaches.run tyT_ok kO_ok mixed_ (rb_round12 W (rbN W bf 11) 3) (rbP_ok (hN 11) 16))).trans ?_
  refine (Reaches.one (Reaches.run tyT_ok kO_ok mixed_ (rb_round13 W (rbN W bf 12) 2) (rbP_ok (hN 12) 16))).trans ?_
  refine (Reaches.one (Reaches.run tyT_ok kO_ok mixed_ (rb_round14 W (rbN W bf 13) 1) (rbP_ok (hN 13) 0))).trans ?_
  exact Reaches.one (Reaches.run tyT_ok kO_ok mixed_ (rb_end W (rbF W bf) 0) trivial)
omit [GT] in
def refBl (w b : List Int) : List Int := keyL 16 fun j => IntKind.u8.wrap (rbF (g2 w) (g2 b) j)
omit [GT] in
def eRBF : List CA → Option CR
  | [.sl .i64 w, .ag .i64 box, .ag .u8 b] => some { pre := w.length = 240 ∧ box = sbox ∧ b.length = 16 ∧ (∀ j, inR (g2 w j)) ∧ ∀ j, inR (g2 b j), val := .av (.one (.arr .u8 (refBl w b))) }
  | _ => none
theorem rblock_ent : EntOK Try.prog 14 (entC [.sl .i64, .ag .i64, .ag .u8] eRBF) := by
  refine ok_C tyT_ok Try.func14 (by kernel_rfl) (by kernel_rfl) [] (fun x hx => by cases hx) (by kernel_rfl) fun cas r hF hp => ?_
  unfold eRBF at hF
  split at hF
  · rename_i w box b
    injection hF with hF
    subst hF
    obtain ⟨h1, rfl, h3, h4, h5⟩ := hp
    have := rb_ends (g2 w) (g2 b) h4 h5
    rw [keyL_g2 h1, keyL_g2 h3] at this
    exact this
  · cases hF

/-! ### the same -/
theorem ws_low (kb : Nat → Int) : ∀ i, i ≤ 8 → (∀ j, j < 4 * i → wsN kb i j = kb j) ∧ xsN i = 1
  | 0, _ => ⟨fun j h => by omega, rfl⟩
  | i + 1, h => by
    obtain ⟨h1, h2⟩ := ws_low kb i (by omega)
    have hb : Nat.blt i 8 = true := Nat.ble_eq_true_of_le (by omega)
    refine ⟨fun j hj => ?_, ?_⟩
    · unfold wsN updW newW
      rw [hb]
      split
      · rename_i he
        have h4 : j = 4 * i + j % 4 := by omega
        have hm : j % 4 < 4 := Nat.mod_lt _ (by decide)
        generalize hq : j % 4 = q at *
        subst h4
        match q, hm with
        | 0, _ => rfl
        | 1, _ => rfl
        | 2, _ => rfl
        | 3, _ => rfl
      · exact h1 j (by omega)
    · unfold xsN newX
      rw [hb]
      exact h2
theorem wx2_at (a b c d e f g h : Int) (k : Nat) (hk : k < 4) : g2 (wx [a, b, c, d, e, f, g, h] 2) k = bx (bx 0 (g2 [a, b, c, d] k)) (g2 [e, f, g, h] k) := by
  match k, hk with
  | 0, _ => rfl
  | 1, _ => rfl
  | 2, _ => rfl
  | 3, _ => rfl
theorem ks_ws {kb : Nat → Int} (hk : ∀ j, inR (kb j)) : ∀ n, n ≤ 52 → (∀ j, j < 4 * (8 + n) → ksN kb n j = wsN kb (8 + n) j) ∧ kxN n = xsN (8 + n)
  | 0, _ => by
    obtain ⟨h1, h2⟩ := ws_low kb 8 (Nat.le_refl _)
    exact ⟨fun j hj => by rw [h1 j hj]; exact i64_in (hk j), h2.symm⟩
  | n + 1, h => by
    obtain ⟨h1, h2⟩ := ks_ws hk n (by omega)
    have hV : ∀ i j, inR (wsN kb i j) := wsN_range fun j _ => hk j
    have hx : inR (xsN (8 + n)) := h2 ▸ kxN_in n
    have hb : Nat.blt (8 + n) 8 = false := by
      cases hq : Nat.blt (8 + n) 8 with
      | false => rfl
      | true => have := Nat.le_of_ble_eq_true hq; omega
    refine ⟨fun j hj => ?_, ?_⟩
    · show updW (ksN kb n) (8 + n) (kW (ksN kb n) (kxN n) (8 + n)) j = updW (wsN kb (8 + n)) (8 + n) (newW kb (wsN kb (8 + n)) (xsN (8 + n)) (8 + n)) j
      unfold updW
      split
      · rename_i he
        have hm : j % 4 < 4 := Nat.mod_lt _ (by decide)
        generalize hq : j % 4 = q at *
        generalize hi : 8 + n = i at *
        generalize hw : wsN kb i = V at *
        have hV' : ∀ j, inR (V j) := fun j => hw ▸ hV i j
        rw [h2]
        generalize xsN i = x at *
        have g : ∀ d, 1 ≤ d → ksN kb n (4 * i - d) = V (4 * i - d) := fun d hd => h1 _ (by omega)
        have e0 : w4 V (i - 8) = [V (4 * i - 32), V (4 * i - 31), V (4 * i - 30), V (4 * i - 29)] := by
          unfold w4
          rw [show 4 * (i - 8) = 4 * i - 32 by omega, show 4 * i - 32 + 1 = 4 * i - 31 by omega, show 4 * i - 32 + 2 = 4 * i - 30 by omega, show 4 * i - 32 + 3 = 4 * i - 29 by omega]
        have e1 : w4 V (i - 1) = [V (4 * i - 4), V (4 * i - 3), V (4 * i - 2), V (4 * i - 1)] := by
          unfold w4
          rw [show 4 * (i - 1) = 4 * i - 4 by omega, show 4 * i - 4 + 1 = 4 * i - 3 by omega, show 4 * i - 4 + 2 = 4 * i - 2 by omega, show 4 * i - 4 + 3 = 4 * i - 1 by omega]
        have hT : ∀ l : List Int, (∀ z ∈ l, inR z) → l = kT V x i → g2 (kW (ksN kb n) x i) q = bx (bx 0 (g2 [V (4 * i - 32), V (4 * i - 31), V (4 * i - 30), V (4 * i - 29)] q)) (g2 l q) := by
          intro l hl he
          have ek : kT (ksN kb n) x i = kT V x i := by
            unfold kT
            rw [g 1 (by omega), g 2 (by omega), g 3 (by omega), g 4 (by omega)]
          unfold kW
          rw [ek, ← he, g 32 (by omega), g 31 (by omega), g 30 (by omega), g 29 (by omega)]
          have r := fun k => g2_range hl k
          match q, hm with
          | 0, _ => exact xo_bx (hV' _) (r 0)
          | 1, _ => exact xo_bx (hV' _) (r 1)
          | 2, _ => exact xo_bx (hV' _) (r 2)
          | 3, _ => exact xo_bx (hV' _) (r 3)
        have hr := kT_in hV' hx i
        rw [hT _ hr rfl]
        unfold newW
        rw [hb]
        simp only
        unfold kT
        split
        · rename_i h0
          simp only [h0]
          rw [e0]
          have e2 : wx [sb (V (4 * i - 3)), sb (V (4 * i - 2)), sb (V (4 * i - 1)), sb (V (4 * i - 4)), x, 0, 0, 0] 2 = [bx (bx 0 (sb (V (4 * i - 3)))) x, bx (bx 0 (sb (V (4 * i - 2)))) 0, bx (bx 0 (sb (V (4 * i - 1)))) 0, bx (bx 0 (sb (V (4 * i - 4)))) 0] := rfl
          rw [e2, bx0 (sb_range _), bx0 (sb_range _), bx0 (sb_range _), ← xo_bx (sb_range _) hx]
          exact (wx2_at _ _ _ _ _ _ _ _ q hm).symm
        · rename_i h0
          simp only [h0]
          rw [e0]
          exact (wx2_at _ _ _ _ _ _ _ _ q hm).symm
        · rename_i h0 h4
          split
          · rename_i h; exact absurd h h0
          · rename_i h; exact absurd h h4
          · rw [e0, e1]
            exact (wx2_at _ _ _ _ _ _ _ _ q hm).symm
      · exact h1 j (by omega)
    · show kX (kxN n) (8 + n) = newX (xsN (8 + n)) (8 + n)
      unfold kX newX
      rw [hb, h2]
      simp only
      split
      · rename_i h0
        simp only [h0]
        exact pT2 hx
      · rename_i h0
        split
        · rename_i h; exact absurd h h0
        · rfl
theorem idx_eq : ∀ j, j < 16 → (j + 4 * (j % 4)) % 16 = 4 * ((j / 4 + j % 4) % 4) + j % 4 := by decide
theorem rbT_eq (S : Nat → Int) (j : Nat) (hj : j < 16) : rbT S j = gRow S j := by
  unfold rbT gRow
  rw [idx_eq j hj]
theorem rbV_eq (S : Nat → Int) (j : Nat) (hj : j < 16) : rbV S j = gMix (gRow S) j := by
  refine bv_inj (rbV_in _ _) (gMix_in (gRow S) j hj) ?_
  have hc : j = 4 * (j / 4) + j % 4 := by omega
  have hm : j % 4 < 4 := Nat.mod_lt _ (by decide)
  have hd : j / 4 < 4 := by omega
  generalize j % 4 = k at *
  generalize j / 4 = c at *
  subst hc
  rw [gMix_at _ c k hm]
  unfold rbV
  have d1 : (4 * c + k) / 4 = c := by omega
  have d2 : (4 * c + k) % 4 = k := by omega
  rw [d1, d2]
  have hp2 := bv_tw (rbT S (4 * c + k))
  have x1 : ∀ a b c d : Int, inR a → inR b → inR c → inR d → bv (xo (xo (xo (pT a 2) (pT b 3)) c) d) = mx (bv a) (bv b) (bv c) (bv d) := fun a b c d ha hb hc hd => by
    have i2 : inR (pT a 2) := by rw [pT2 ha]; exact tw_in _
    have i3 : inR (pT b 3) := by rw [pT3 hb]; exact bx_range _ _
    rw [(xo_in (xo_in (xo_in i2 i3).1 hc).1 hd).2, (xo_in (xo_in i2 i3).1 hc).2, (xo_in i2 i3).2, pT2 ha, pT3 hb, bv_bx, bv_tw, bv_tw]
    unfold mx
    rw [← BitVec.xor_assoc]
  rw [x1 _ _ _ _ (rbT_in _ _) (rbT_in _ _) (rbT_in _ _) (rbT_in _ _)]
  obtain ⟨m0, m1, m2, m3⟩ := mixW_bv (gRow S (4 * c)) (gRow S (4 * c + 1)) (gRow S (4 * c + 2)) (gRow S (4 * c + 3))
  have r := fun q (hq : q < 4) => rbT_eq S (4 * c + q) (by omega)
  have r0' : rbT S (4 * c + 0) = gRow S (4 * c) := r 0 (by omega)
  have r0 := r 0 (by omega)
  rw [Nat.add_zero] at r0
  match k, hm with
  | 0, _ =>
    rw [m0]
    show mx (bv (rbT S (4 * c))) (bv (rbT S (4 * c + 1))) (bv (rbT S (4 * c + 2))) (bv (rbT S (4 * c + 3))) = _
    rw [r0, r 1 (by omega), r 2 (by omega), r 3 (by omega)]
  | 1, _ =>
    rw [m1]
    show mx (bv (rbT S (4 * c + 1))) (bv (rbT S (4 * c + 2))) (bv (rbT S (4 * c + 3))) (bv (rbT S (4 * c + 0))) = _
    rw [r0', r 1 (by omega), r 2 (by omega), r 3 (by omega)]
  | 2, _ =>
    rw [m2]
    show mx (bv (rbT S (4 * c + 2))) (bv (rbT S (4 * c + 3))) (bv (rbT S (4 * c + 0))) (bv (rbT S (4 * c + 1))) = _
    rw [r0', r 1 (by omega), r 2 (by omega), r 3 (by omega)]
  | 3, _ =>
    rw [m3]
    show mx (bv (rbT S (4 * c + 3))) (bv (rbT S (4 * c + 0))) (bv (rbT S (4 * c + 1))) (bv (rbT S (4 * c + 2))) = _
    rw [r0', r 1 (by omega), r 2 (by omega), r 3 (by omega)]
theorem add_xo (kf g : Nat → Int) (r j : Nat) {a w : Int} (ha : inR a) (hw : inR w) (e1 : a = g j) (e2 : w = kf (16 * r + j)) : xo a w = gAdd kf r g j := by
  rw [gAdd_eq, xo_bx ha hw, e1, e2]
theorem gMix_cong {g h : Nat → Int} (e : EqOn g h) : EqOn (gMix g) (gMix h) := fun i hi => gMix_congr e i hi
theorem rb_rnds {W kf bf : Nat → Int} (hW : ∀ j, inR (W j)) (hb : ∀ j, inR (bf j)) (e : ∀ j, j < 240 → W j = kf j) : ∀ n, n ≤ 13 → EqOn (rbN W bf n) (fun j => rnds kf 1 n (gAdd kf 0 bf) j)
  | 0, _ => fun j hj => by
    show xo (IntKind.i64.wrap (bf j)) (W j) = gAdd kf 0 bf j
    rw [i64_in (hb j)]
    exact add_xo kf bf 0 j (hb j) (hW j) rfl (by rw [e j (by omega)]; congr 1; omega)
  | n + 1, h => fun j hj => by
    have ih := rb_rnds hW hb e n (by omega)
    have e3 : rnds kf 1 (n + 1) (gAdd kf 0 bf) = gAdd kf (1 + n) (gMix (gRow (rnds kf 1 n (gAdd kf 0 bf)))) := rnds_snoc kf n 1 _
    show xo (rbV (rbN W bf n) j) (W (16 * (n + 1) + j)) = rnds kf 1 (n + 1) (gAdd kf 0 bf) j
    rw [e3]
    refine add_xo kf _ (1 + n) j (rbV_in _ _) (hW _) ?_ ?_
    · rw [rbV_eq _ j hj]
      exact gMix_congr (fun i hi => gRow_congr (fun i hi => ih i hi) i hi) j hj
    · rw [e _ (by omega)]; congr 1; omega
where
  rnds_snoc (kf : Nat → Int) : ∀ (n r : Nat) (g : Nat → Int), rnds kf r (n + 1) g = gAdd kf (r + n) (gMix (gRow (rnds kf r n g)))
    | 0, r, g => rfl
    | n + 1, r, g => by
      show rnds kf (r + 1) (n + 1) (gAdd kf r (gMix (gRow g))) = _
      rw [rnds_snoc kf n (r + 1)]
      show _ = gAdd kf (r + (n + 1)) (gMix (gRow (rnds kf (r + 1) n (gAdd kf r (gMix (gRow g))))))
      rw [show r + 1 + n = r + (n + 1) by omega]
/-- The reference's block is the cipher's. -/
theorem refBl_enc {w ks b : List Int} (hW : ∀ j, inR (g2 w j)) (hb : ∀ j, inR (g2 b j)) (e : ∀ j, j < 240 → g2 w j = g2 ks j) : refBl w b = encL ks b := by
  unfold refBl encL
  refine keyL_congr fun j hj => ?_
  have h := rb_rnds (kf := g2 ks) hW hb e 13 (Nat.le_refl _)
  have e1 : rbF (g2 w) (g2 b) j = encG (g2 ks) (g2 b) j := by
    refine add_xo (g2 ks) _ 14 j (rbT_in _ _) (hW _) ?_ (e _ (by omega))
    rw [rbT_eq _ j hj]
    exact gRow_congr (fun i hi => h i hi) j hj
  rw [e1]
  have : inR (encG (g2 ks) (g2 b) j) := by
    unfold encG
    rw [gAdd_eq]
    exact bx_range _ _
  obtain ⟨h1, h2⟩ := this
  exact w8 h1 (by omega)
end Go.Proofs.Ytkoackalpcmhaaa.Am
/- Opening arrays of bytes, and rows of them, at a law's call. Conditions: none. -/
namespace Go.Proofs.Ytkoackalpcmhaaa
set_option linter.unusedVariables false
set_option linter.unusedSimpArgs false
open Go Go.ChangeShapes Go.WideShapes Go.ChangeAt Go.RowKit

theorem own_ : ownKnob Try.prog.godebug = none := by kernel_rfl
theorem laidOut_ : laidOutB Try.prog = true := by kernel_rfl
theorem ints_of {k : IntKind} : ∀ l : List Value, (∀ i, i < l.length → ∃ z, l[i]? = some (.int k z) ∧ (Lit.int k z).wf = true) → ∃ bs : List Int, l = bs.map (Value.int k) ∧ ∀ z ∈ bs, (Lit.int k z).wf = true
  | [], _ => ⟨[], rfl, by simp⟩
  | x :: l, h => by
    obtain ⟨z, hz, hw⟩ := h 0 (by simp)
    obtain ⟨bs, hb, hbw⟩ := ints_of l fun i hi => by
      obtain ⟨z, hz, hw⟩ := h (i + 1) (by simp; omega)
      exact ⟨z, by simpa using hz, hw⟩
    simp only [List.getElem?_cons_zero, Option.some.injEq] at hz
    subst hz
    refine ⟨z :: bs, by rw [hb]; rfl, fun y hy => ?_⟩
    rcases List.mem_cons.1 hy with rfl | hy
    · exact hw
    · exact hbw y hy
/-- An array of integers that comes in. -/
theorem open_arr {H : Type} {enc : TypeId × Value → H} {W : World} {base : Nat} {b0 : Nat} {spare : Nat → Bool} {held : Bool} {v : Value} {d : DataW H} {ps : List MemPlace} {t e : TypeId} {n : Nat} {k : IntKind}
    (ht : Try.prog.underlying t = some (.array n e)) (he : Try.prog.underlying e = some (.int k)) (hct : Try.prog.cellsOf t = n) (hce : Try.prog.cellsOf e = 1)
    (hval : Value.okWide Try.prog W .any b0 t v) (h : DataW.Trod enc Try.prog W base spare held t v d ps) :
    ∃ bs : List Int, bs.length = n ∧ (∀ z ∈ bs, (Lit.int k z).wf = true) ∧ v = .agg (bs.map (Value.int k)).toArray := by
  obtain ⟨cs, rfl, hsz, _⟩ : ∃ cs, v = .agg cs ∧ cs.size = Try.prog.cellsOf t ∧ Row.okWide Try.prog W .any b0 t cs := by
    simpa [Value.okWide, ht] using hval
  rw [hct] at hsz
  obtain ⟨fuel, hf⟩ := h
  obtain ⟨xs, m, _, _, hl, hxs, hel⟩ := DataW.trod_array ht hf
  obtain ⟨l⟩ := cs
  have hl' : l.length = n := hsz
  have hc : (Value.agg ⟨l⟩).cells.toList = l := rfl
  obtain ⟨bs, hb, hw⟩ := ints_of (k := k) l fun i hi => by
    have := hel i (by omega)
    rw [hc, hce, Nat.mul_one, List.getElem?_eq_getElem (by omega)] at this
    obtain ⟨z, hz, _, hzw⟩ := DataW.trod_int he this
    refine ⟨z, ?_, hzw⟩
    have h2 := congrArg (fun q => q[0]?) hz
    simpa [List.getElem?_take, List.getElem?_drop] using h2
  exact ⟨bs, by rw [hb] at hl'; simpa using hl', hw, by rw [hb]⟩

/-- What is known of a row of integers that came in. -/
def IsRow (k : IntKind) (w : World) (a : Option Addr) (len cap : Nat) (zs : List Int) : Prop :=
  (a = none ∧ len = 0 ∧ cap = 0 ∧ zs = []) ∨
  ∃ x, a = some x ∧ len ≤ cap ∧ cap ≤ maxLen ∧ zs.length = cap ∧ (∀ i, i < zs.length → w.cell? (x.add i) = some (.int k (zs.getD i 0))) ∧ ∀ n ∈ zs, (Lit.int k n).wf = true

end Go.Proofs.Ytkoackalpcmhaaa
/- Opening slices of integers at a law's call, as the machine takes them; and a law's call. Conditions: none. -/
namespace Go.Proofs.Ytkoackalpcmhaaa
set_option linter.unusedVariables false
set_option linter.unusedSimpArgs false
open Go Go.ChangeShapes Go.WideShapes Go.ChangeAt Go.RowKit

theorem has_lt {P : Program} {w : World} {r : Reach} {base : Nat} {a : Addr} {e : TypeId} {n : Nat} (h : w.has P r base a e n) : a.block < w.heap.size := by
  obtain ⟨_, _, row, cells, hs, _⟩ := h
  unfold World.shape? at hs
  split at hs
  · rename_i hb
    exact (Array.getElem?_eq_some_iff.1 hb).1
  all_goals first | cases hs | (rename_i hb; exact (Array.getElem?_eq_some_iff.1 hb).1)
/-- A slice of integers that comes in. -/
theorem open_sl {H : Type} {enc : TypeId × Value → H} {W : World} {base : Nat} {b0 : Nat} {spare : Nat → Bool} {held : Bool} {v : Value} {d : DataW H} {ps : List MemPlace} {t e : TypeId} {k : IntKind}
    (ht : Try.prog.underlying t = some (.slice e)) (he : Try.prog.underlying e = some (.int k)) (hce : Try.prog.cellsOf e = 1)
    (hval : Value.okWide Try.prog W .any b0 t v) (h : DataW.Trod enc Try.prog W base spare held t v d ps) :
    ∃ a cap, ∃ zs : List Int, v = .slice a zs.length cap ∧ Am.RowAt W ⟨a, cap⟩ k zs ∧ ∀ z ∈ zs, (Lit.int k z).wf = true := by
  obtain ⟨a, len, cap, rfl⟩ := okWide_slice ht hval
  have hlt : ∀ x, a = some x → x.block < W.heap.size := fun x hx => by
    subst hx
    simp only [Value.okWide, ht, Cell.okWide, Cell.ok] at hval
    exact has_lt hval.2.2
  obtain ⟨fuel, hf⟩ := h
  rcases open_ints ht he hce hf with ⟨hcs, _⟩ | ⟨x, l, c, zs, hcs, _, hl, hm, hz, _, hcell, hwz⟩
  · simp [Value.cells] at hcs
    obtain ⟨rfl, rfl, rfl⟩ := hcs
    exact ⟨none, 0, [], rfl, ⟨Nat.le_refl _, .inl rfl, fun x hx => by cases hx⟩, by simp⟩
  · simp [Value.cells] at hcs
    obtain ⟨rfl, rfl, rfl⟩ := hcs
    have hzl : len ≤ zs.length := by rw [hz]; split <;> omega
    have hlen : (zs.take len).length = len := by rw [List.length_take]; omega
    refine ⟨some x, cap, zs.take len, by rw [hlen], ⟨by rw [hlen]; exact hl, .inr ⟨x, rfl, fun j u hj => ?_⟩, hlt⟩, fun z hz' => hwz z (List.mem_of_mem_take hz')⟩
    have hjl : j < len := by
      have := (List.getElem?_eq_some_iff.1 hj).1
      rw [List.length_map, hlen] at this; exact this
    rw [List.getElem?_map, List.getElem?_take, if_pos hjl, List.getElem?_eq_getElem (by omega)] at hj
    simp only [Option.map_some, Option.some.injEq] at hj
    subst hj
    have := hcell j (by omega)
    simpa [List.getD_eq_getElem?_getD, List.getElem?_eq_getElem (show j < zs.length by omega)] using this
end Go.Proofs.Ytkoackalpcmhaaa
namespace Go.Proofs.Ytkoackalpcmhaaa.Am
open Go Go.RowKit
variable [GT]
omit [GT] in
/-- Rows that come in, as blocks to be read. -/
def rowsH : List (Loc × IntKind × List Int) → Nat → List (Nat × Blk)
  | [], _ => []
  | (_, k, zs) :: l, n => (n, ⟨2, 0, [.arr k zs]⟩) :: rowsH l (n + 1)
omit [GT] in
theorem rowsH_spec : ∀ (l : List (Loc × IntKind × List Int)) (n i : Nat) (b : Blk), look (rowsH l n) i = some b → n ≤ i ∧ i < n + l.length ∧ ∃ x, l[i - n]? = some x ∧ b = ⟨2, 0, [.arr x.2.1 x.2.2]⟩
  | [], n, i, b, h => by cases h
  | (g, k, zs) :: l, n, i, b, h => by
    simp only [rowsH, look_cons] at h
    by_cases hi : n = i
    · subst hi
      rw [if_pos rfl] at h
      injection h with h
      subst h
      exact ⟨Nat.le_refl _, by simp, (g, k, zs), by simp, rfl⟩
    · rw [if_neg hi] at h
      obtain ⟨h1, h2, x, hx, hb⟩ := rowsH_spec l (n + 1) i b h
      refine ⟨by omega, by simp only [List.length_cons]; omega, x, ?_, hb⟩
      rw [show i - n = (i - (n + 1)) + 1 by omega, List.getElem?_cons_succ]
      exact hx
theorem hr_rows {w : World} (l : List (Loc × IntKind × List Int)) (h : ∀ x ∈ l, RowAt w x.1 x.2.1 x.2.2) (hgw : GWok w.heap.size [] w) : HR (fun i => (l.map (·.1)).getD i ⟨none, 0⟩) (· < l.length) w.heap.size [] (look (rowsH l 0)) w := by
  have hall : ∀ i b, look (rowsH l 0) i = some b → i < l.length ∧ ∃ k zs, b = ⟨2, 0, [.arr k zs]⟩ ∧ RowAt w ((l.map (·.1)).getD i ⟨none, 0⟩) k zs := fun i b hb => by
    obtain ⟨_, h2, x, hx, rfl⟩ := rowsH_spec _ _ _ _ hb
    rw [Nat.sub_zero] at hx
    refine ⟨by omega, _, _, rfl, ?_⟩
    have e : (l.map (·.1)).getD i ⟨none, 0⟩ = x.1 := by simp [List.getD_eq_getElem?_getD, hx]
    rw [e]
    exact h x (List.mem_of_getElem? hx)
  refine ⟨Nat.le_refl _, fun i b hb => ?_, fun i b x hb hx => ?_, fun i b x hb hk hx => ?_, fun i j bi bj x y hi hj hij hk hx hy => ?_, hgw⟩
  · obtain ⟨h2, k, zs, rfl, h3, h4, _⟩ := hall i b hb
    refine ⟨h2, fun s hs => (by simp at hs; subst hs; trivial), ?_⟩
    show (segsVals _ _).length ≤ _ ∧ _
    rw [segsVals_one]
    refine ⟨by simpa [Seg.vals] using h3, ?_⟩
    rcases h4 with rfl | h4
    · exact .inl rfl
    · exact .inr h4
  · obtain ⟨_, k, zs, rfl, _, _, h5⟩ := hall i b hb
    exact h5 x hx
  · obtain ⟨_, k, zs, rfl, _⟩ := hall i b hb
    simp at hk
  · obtain ⟨_, k, zs, rfl, _⟩ := hall i bi hi
    simp at hk
/-- A law's run that ends in true. -/
theorem law_reach {f : FuncId} {fn : Func} (hf : Try.prog.funcs[f]? = some fn) {avs : List SV} {hp : List (Nat × Blk)} {k : Nat} {todo : List AI} {st : St} (hR : From Try.prog fn avs hp k [] todo st) (hfin : todo = [] ∨ todo = [.fin]) (hv : resVal tyT st fn.results.toList = some (ofV (.bool true))) (hlen : Nat.ble avs.length fn.ntmps = true) (hin : avs.all (svB fun i => Nat.blt i k) = true) {ρc : Nat → Loc} {w : World} (hG : HR ρc (· < k) w.heap.size [] (look hp) w) :
    Calls Try.prog f (avs.map (SV.conc ρc)).toArray w fun e w' => e = .returned (.bool true) ∧ Below w.heap.size w w' := by
  obtain ⟨c, hc, hRe⟩ := hR
  exact reach_val tyT_ok hf hc hfin hRe hv (by rfl) hlen (fun s hs => svB_in (f := fun i => Nat.blt i k) (fun i h => Nat.le_of_ble_eq_true h) (List.all_eq_true.1 hin s hs)) hG (fun _ => ⟨none, 0⟩)
omit [GT] in
theorem conc_s0 {ρ : Nat → Loc} {i n cap : Nat} : SV.conc ρ (.av (.one (.s i 0 n cap))) = .slice (ρ i).a n cap := by
  simp only [SV.conc, AV.conc, Seg.conc]
  cases (ρ i).a <;> simp [Addr.add]
end Go.Proofs.Ytkoackalpcmhaaa.Am
/- Law 05's blocks: of any key, or that it is none. Conditions: none. -/
namespace Go.Proofs.Ytkoackalpcmhaaa.Am
set_option linter.unusedVariables false
set_option linter.unusedSimpArgs false
open Go Go.RowKit
variable [GT]

omit [GT] in
noncomputable abbrev fNw : Func := Try.f11
omit [GT] in
/-- New of a key that is none. -/
def eNB : List CA → Option CR
  | [.sl .u8 key] => some { pre := key.length ≠ 32, val := .tup [.one (.v (.pointer none)), .one (.v (.int .i64 3))] }
  | _ => none
omit [GT] in
def nbEnd (key : List Int) : St := { tm := tmL 89 [(2, ofV (.pointer none)), (3, ofV (.int .i64 3))], hp := [(0, ⟨2, 0, [.arr .u8 key]⟩)], nx := 1, gl := [] }
theorem nb_run (key : List Int) : runF tyT [] (atH 1 2 (isB true) noH) [] 1 [] [2, 3] fNw (canA [.sl .u8 key] 0) (canH [.sl .u8 key] 0 ++ gH [] 1) 1 [] = some ([.fin], nbEnd key, [tB ((key.length : Int) != 32) true]) := by kernel_rfl
theorem newbad_ent : EntOK Try.prog 11 (entC [.sl .u8] eNB) := by
  refine ok_C tyT_ok Try.func11 (by kernel_rfl) (by kernel_rfl) [] (fun x hx => by cases hx) (by kernel_rfl) fun cas r hF hp => ?_
  unfold eNB at hF
  split at hF
  · rename_i key
    injection hF with hF
    subst hF
    have hp : key.length ≠ 32 := hp
    exact ⟨[.fin], nbEnd key, .tup [.one (.v (.pointer none)), .one (.v (.int .i64 3))], [], .inr rfl, From.run tyT_ok nil_ok mixed_ (nb_run key) ⟨tB_ne.2 (by omega), trivial⟩, by kernel_rfl, by kernel_rfl, by kernel_rfl⟩
  · cases hF

omit [GT] in
noncomputable abbrev fLB : Func := Try.f3
omit [GT] in
noncomputable def lbO (e : Ent) : List (Nat × Ent) := [(10, eTrue), (11, e), (12, eBoxes), (13, eBlock), (14, entC [.sl .i64, .ag .i64, .ag .u8] eRBF), (15, entC [.sl .u8, .ag .i64] eKeysF)]
theorem lbO_ok {e : Ent} (h : EntOK Try.prog 11 e) : OOK Try.prog (lbO e) := ook_of (l := lbO e) ⟨awake_ent, h, boxes_ent, block_ent, rblock_ent, keys_ent, trivial⟩
omit [GT] in
def lbA (n cap : Nat) (bf : Nat → Int) : List SV := [.av (.one (.s 0 0 n cap)), .av (.one (.arr .u8 (keyL 16 bf)))]
omit [GT] in
def lbHp (key : List Int) : List (Nat × Blk) := [(0, ⟨2, 0, [.arr .u8 key]⟩)]
omit [GT] in
def lbEnd (key : List Int) : St := { tm := tmL 49 [(4, ofV (.bool true))], hp := lbHp key, nx := 1, gl := [] }
theorem lb_long (key : List Int) (cap : Nat) (bf : Nat → Int) : runF tyT (lbO (entC [.sl .u8] eNB)) (atH 1 6 (isB true) noH) [] 1 [] [4] fLB (lbA key.length cap bf) (lbHp key) 1 [] = some ([.fin], lbEnd key, [tB (decide ((key.length : Int) > 100)) true]) := by kernel_rfl
theorem lb_bad (key : List Int) (cap : Nat) (bf : Nat → Int) : runF tyT (lbO (entC [.sl .u8] eNB)) (atH 1 6 (isB false) (atH 4 2 (isB true) noH)) [] 1 [] [4] fLB (lbA key.length cap bf) (lbHp key) 1 [] = some ([.fin], lbEnd key, [tB (decide ((key.length : Int) > 100)) false, 0 + key.length ≤ (key ++ []).length ∧ key.length ≤ cap, (cutI (key ++ []) 0 key.length).length ≠ 32, tB ((key.length : Int) != 32) true]) := by kernel_rfl
omit [GT] in
def lbK (kb : Nat → Int) : List Int := cutI (keyL 32 kb ++ []) 0 32
omit [GT] in
def lbW (kb : Nat → Int) : List Int := cutI (keyL 240 (ksN (g2 (lbK kb)) 52) ++ []) 0 240
theorem lb_good (kb bf : Nat → Int) (cap : Nat) : runF tyT (lbO eNew) (atH 7 16 (isB true) noH) [] 1 [] [4] fLB (lbA 32 cap bf) (lbHp (keyL 32 kb)) 1 [] = some ([.fin], lbEnd (keyL 32 kb), [32 ≤ cap ∧ ∀ j, j < 32 → inR (g2 (keyL 32 kb) (0 + j)), sbox = sbox, 0 + 32 ≤ 32 ∧ 32 ≤ cap, (lbK kb).length = 32 ∧ sbox = sbox ∧ ∀ j, inR (g2 (lbK kb) j), 0 + 240 ≤ 240, (lbW kb).length = 240 ∧ sbox = sbox ∧ (keyL 16 bf).length = 16 ∧ (∀ j, inR (g2 (lbW kb) j)) ∧ ∀ j, inR (g2 (keyL 16 bf) j), tB (encL (keyL 240 (schedW (keyL 32 kb) 0)) (keyL 16 bf) == refBl (lbW kb) (keyL 16 bf)) true]) := by kernel_rfl
/-! ### the law -/
theorem lb_same {key b : List Int} (hl : key.length = 32) (hb : b.length = 16) (rk : ∀ j, inR (g2 key j)) (rb : ∀ j, inR (g2 b j)) : (encL (keyL 240 (schedW (keyL 32 (g2 key)) 0)) b == refBl (lbW (g2 key)) b) = true := by
  have e0 : keyL 32 (g2 key) = key := keyL_g2 hl
  have e1 : lbK (g2 key) = key := by unfold lbK; rw [e0, List.append_nil, ← hl, cutI_all]
  have e2 : lbW (g2 key) = keyL 240 (ksN (g2 key) 52) := by
    unfold lbW
    rw [e1, List.append_nil]
    have := cutI_all (keyL 240 (ksN (g2 key) 52))
    rw [keyL_len] at this
    exact this
  have hW : ∀ j, inR (g2 (lbW (g2 key)) j) := fun j => by
    rw [e2]
    exact g2_range (fun x hx => by
      unfold keyL at hx
      obtain ⟨i, _, rfl⟩ := List.mem_map.1 hx
      exact ksN_in rk 52 i) j
  rw [beq_iff_eq]
  refine (refBl_enc hW rb fun j hj => ?_).symm
  rw [e2, g2_keyL 240 _ j hj, g2_keyL 240 _ j hj, (ks_ws rk 52 (Nat.le_refl _)).1 j (by omega), e0]
  unfold schedW
  congr 2
  funext i
  rw [Nat.zero_add]
theorem lawBlocks_fact (a : Option Addr) (cap : Nat) (key b : List Int) {W : World} (hgw : GWok W.heap.size [] W) (hr : RowAt W ⟨a, cap⟩ .u8 key) (wk : ∀ z ∈ key, (Lit.int .u8 z).wf = true) (lb : b.length = 16) (wb : ∀ z ∈ b, (Lit.int .u8 z).wf = true) : Calls Try.prog 3 #[.slice a key.length cap, .agg (b.map (Value.int .u8)).toArray] W fun e w' => e = .returned (.bool true) ∧ Below W.heap.size W w' := by
  have hG := hr_rows [(⟨a, cap⟩, .u8, key)] (fun x hx => by simp at hx; subst hx; exact hr) hgw
  have hcap : key.length ≤ cap := hr.1
  have key1 : ∀ {todo : List AI} {st : St}, From Try.prog fLB (lbA key.length cap (g2 b)) (lbHp key) 1 [] todo st → (todo = [] ∨ todo = [.fin]) → resVal tyT st fLB.results.toList = some (ofV (.bool true)) → Calls Try.prog 3 #[.slice a key.length cap, .agg (b.map (Value.int .u8)).toArray] W fun e w' => e = .returned (.bool true) ∧ Below W.heap.size W w' := fun hR hfin hv => by
    have := law_reach Try.func3 hR hfin hv (by kernel_rfl) (by kernel_rfl) hG
    simp only [lbA, List.map_cons, List.map_nil, conc_s0, keyL_g2 lb] at this
    exact this
  by_cases h100 : (key.length : Int) > 100
  · exact key1 (From.run tyT_ok (lbO_ok newbad_ent) mixed_ (lb_long key cap (g2 b)) ⟨tB_gt.2 h100, trivial⟩) (.inr rfl) (by kernel_rfl)
  · by_cases h32 : key.length = 32
    · refine key1 (st := lbEnd key) ?_ (.inr rfl) (by kernel_rfl)
      have e0 : keyL 32 (g2 key) = key := keyL_g2 h32
      have rk := wf_g2 wk
      have rb := wf_g2 wb
      have hrun := lb_good (g2 key) (g2 b) cap
      have e1 : lbK (g2 key) = key := by unfold lbK; rw [e0, List.append_nil, ← h32, cutI_all]
      have hWl : (lbW (g2 key)).length = 240 := by
        unfold lbW
        rw [cutI_eq, List.append_nil]
        simp [keyL_len]
      have hW : ∀ j, inR (g2 (lbW (g2 key)) j) := fun j => by
        refine g2_range (fun x hx => ?_) j
        unfold lbW at hx
        rw [cutI_eq, List.append_nil] at hx
        have hx := List.mem_of_mem_drop (List.mem_of_mem_take hx)
        unfold keyL at hx
        obtain ⟨i, _, rfl⟩ := List.mem_map.1 hx
        rw [e1]
        exact ksN_in rk 52 i
      have := From.run tyT_ok (lbO_ok new_ent) mixed_ hrun ⟨⟨by omega, fun j hj => by rw [e0]; exact rk _⟩, rfl, ⟨by omega, by omega⟩, ⟨by rw [e1]; exact h32, rfl, by rw [e1]; exact rk⟩, Nat.le_refl _, ⟨hWl, rfl, by rw [keyL_g2 lb]; exact lb, hW, by rw [keyL_g2 lb]; exact rb⟩, by rw [keyL_g2 lb]; exact tB_iff.2 (lb_same h32 lb rk rb), trivial⟩
      rw [e0] at this
      rw [h32]
      exact this
    · refine key1 (From.run tyT_ok (lbO_ok newbad_ent) mixed_ (lb_bad key cap (g2 b)) ⟨tB_ngt.2 (by omega), ⟨by simp, hcap⟩, ?_, tB_ne.2 (by omega), trivial⟩) (.inr rfl) (by kernel_rfl)
      rw [List.append_nil, cutI_all]
      exact h32
end Go.Proofs.Ytkoackalpcmhaaa.Am
/- No variable of the package is known: none is read. Conditions: none. -/
namespace Go.Proofs.Ytkoackalpcmhaaa.Am
set_option linter.unusedVariables false
set_option linter.unusedSimpArgs false
open Go
instance gt0 : GT := ⟨[]⟩
theorem gw0 {N : Nat} {M : List Nat} {w : World} : GWok N M w := fun x h => by cases h
end Go.Proofs.Ytkoackalpcmhaaa.Am
