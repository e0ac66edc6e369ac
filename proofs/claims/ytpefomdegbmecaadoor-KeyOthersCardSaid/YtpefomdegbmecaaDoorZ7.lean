/- The abstract machine: contracts by what the arguments read as. Conditions: none. -/
import Derived.Test.YtpefomdegbmecaaDoorZ6
set_option linter.unusedSectionVars false
namespace Go.Proofs.YtpefomdegbmecaaDoor.Am
set_option linter.unusedVariables false
set_option linter.unusedSimpArgs false
open Go Go.RowKit

/-- An argument, by what it reads as: an integer, a truth, a slice of integers, an array of integers. -/
inductive CA where
  | i (k : IntKind) (z : Int)
  | b (x : Bool)
  | sl (k : IntKind) (l : List Int)
  | ag (k : IntKind) (l : List Int)
inductive Sh where
  | i (k : IntKind) | b | sl (k : IntKind) | ag (k : IntKind)
def canA : List CA → Nat → List SV
  | [], _ => []
  | .i k z :: l, n => ofV (.int k z) :: canA l n
  | .b x :: l, n => ofV (.bool x) :: canA l n
  | .sl _ zs :: l, n => .av (.one (.r n 0 zs.length 0)) :: canA l (n + 1)
  | .ag k zs :: l, n => .av (.one (.arr k zs)) :: canA l n
def canH : List CA → Nat → List (Nat × Blk)
  | [], _ => []
  | .sl k zs :: l, n => (n, ⟨2, 0, [.arr k zs]⟩) :: canH l (n + 1)
  | _ :: l, n => canH l n
def cntA : List CA → Nat
  | [] => 0
  | .sl _ _ :: l => cntA l + 1
  | _ :: l => cntA l
def cutI (zs : List Int) (off len : Nat) : List Int := (match off with
  | 0 => zs
  | n + 1 => zs.drop (n + 1)).take len
theorem cutI_eq (zs : List Int) (off len : Nat) : cutI zs off len = (zs.drop off).take len := by
  unfold cutI
  cases off <;> rfl
theorem cutI_all (zs : List Int) : cutI zs 0 zs.length = zs := by simp [cutI]
def readA (G : Nat → Option Blk) : Sh → SV → Option (CA × Asm)
  | .i k, .av (.one (.v (.int j z))) => match Nat.beq (ik j) (ik k) with
    | true => some (.i k z, .tt)
    | false => none
  | .b, .av (.one (.v (.bool x))) => some (.b x, .tt)
  | .sl k, .av (.one (.v (.slice none 0 0))) => some (.sl k [], .tt)
  | .sl k, .av (.one (.s id off len cap)) => match G id with
    | some b => match intsOf k b.c with
      | some zs => some (.sl k (cutI zs off len), .say (off + len ≤ zs.length ∧ len ≤ cap))
      | none => none
    | none => none
  | .sl k, .av (.one (.r id off len _)) => match G id with
    | some b => match intsOf k b.c, Nat.ble 1 b.k with
      | some zs, true => some (.sl k (cutI zs off len), .say (off + len ≤ zs.length))
      | _, _ => none
    | none => none
  | .ag k, .av a => match intsOf k a.segs, aggB a with
    | some zs, true => some (.ag k zs, .tt)
    | _, _ => none
  | _, _ => none
def readAs (G : Nat → Option Blk) : List Sh → List SV → Option (List CA × Asm)
  | [], [] => some ([], .tt)
  | s :: l, x :: m => match readA G s x, readAs G l m with
    | some (c, p), some (cs, q) => some (c :: cs, p.and q)
    | _, _ => none
  | _, _ => none

section
variable {P : Program} {T : List (Nat × Ty)} {ρ : Nat → Loc} {D : Nat → Prop} {N : Nat} {M : List Nat} {G : Nat → Option Blk} {base : Nat} {w : World}
variable [GT]

omit [GT] in
/-- What a row to be read needs of its place. -/
def RowAt (w : World) (l : Loc) (k : IntKind) (zs : List Int) : Prop :=
  zs.length ≤ l.cap ∧ (zs = [] ∨ ∃ x, l.a = some x ∧ ∀ j u, (zs.map (Value.int k))[j]? = some u → w.cell? (x.add j) = some u) ∧ ∀ x, l.a = some x → x.block < w.heap.size
theorem row_part (hG : HR ρ D N M G w) {id : Nat} {b : Blk} (hb : G id = some b) {k : IntKind} {zs : List Int} (hz : intsOf k b.c = some zs) {off len : Nat} (hl : off + len ≤ zs.length) : (cutI zs off len).length = len ∧ (cutI zs off len = [] ∨ ∃ x, (ρ id).a = some x ∧ ∀ j u, ((cutI zs off len).map (Value.int k))[j]? = some u → w.cell? ((x.add off).add j) = some u) := by
  have hv := intsOf_spec ρ _ _ hz
  rw [cutI_eq]
  have hlen : ((zs.drop off).take len).length = len := by rw [List.length_take, List.length_drop]; omega
  refine ⟨hlen, ?_⟩
  by_cases h0 : len = 0
  · left
    rw [h0, List.take_zero]
  right
  have hcell : ∀ j, j < len → ∃ x, (ρ id).a = some x ∧ w.cell? (x.add (off + j)) = some (.int k (zs.getD (off + j) 0)) := fun j hj => by
    refine (hG.blk id b hb).2.2.cells ?_
    rw [hv, List.getElem?_map, List.getElem?_eq_getElem (by omega)]
    simp [List.getD_eq_getElem?_getD, List.getElem?_eq_getElem (show off + j < zs.length by omega)]
  obtain ⟨x, hx, _⟩ := hcell 0 (by omega)
  refine ⟨x, hx, fun j u hj => ?_⟩
  have hjl : j < len := by
    rcases Nat.lt_or_ge j len with h | h
    · exact h
    · rw [List.getElem?_eq_none (by rw [List.length_map, hlen]; exact h)] at hj; cases hj
  rw [List.getElem?_map, List.getElem?_take, if_pos hjl, List.getElem?_drop, List.getElem?_eq_getElem (by omega)] at hj
  simp only [Option.map_some, Option.some.injEq] at hj
  subst hj
  obtain ⟨y, hy, hc⟩ := hcell j hjl
  rw [hx] at hy
  injection hy with hy
  subst hy
  rw [add_add, hc, List.getD_eq_getElem?_getD, List.getElem?_eq_getElem (by omega)]
  rfl
theorem canon (hG : HR ρ D N M G w) : ∀ (shs : List Sh) (svs : List SV) (cas : List CA) (p : Asm) (n : Nat), readAs G shs svs = some (cas, p) → p.holds → cas.length = shs.length ∧ ∃ ls : List Loc, ls.length = cntA cas ∧ ∀ ρc : Nat → Loc, (∀ (j : Nat) (l : Loc), ls[j]? = some l → ρc (n + j) = l) →
    (canA cas n).map (SV.conc ρc) = svs.map (SV.conc ρ) ∧ ∀ i b, look (canH cas n) i = some b → n ≤ i ∧ i < n + cntA cas ∧ ∃ k zs, b = ⟨2, 0, [.arr k zs]⟩ ∧ RowAt w (ρc i) k zs
  | [], [], cas, p, n, h, _ => by
    simp only [readAs, Option.some.injEq, Prod.mk.injEq] at h
    obtain ⟨rfl, rfl⟩ := h
    exact ⟨rfl, [], rfl, fun ρc _ => ⟨rfl, fun i b hb => by cases hb⟩⟩
  | [], _ :: _, _, _, _, h, _ => by cases h
  | _ :: _, [], _, _, _, h, _ => by cases h
  | s :: l, x :: m, cas, p, n, h, hp => by
    unfold readAs at h
    split at h
    · rename_i c p1 cs q h1 h2
      simp only [Option.some.injEq, Prod.mk.injEq] at h
      obtain ⟨rfl, rfl⟩ := h
      have row : ∀ (k : IntKind) (zs : List Int) (lc : Loc), c = .sl k zs → RowAt w lc k zs → (∀ ρc : Nat → Loc, ρc n = lc → SV.conc ρc (.av (.one (.r n 0 zs.length 0))) = x.conc ρ) → (c :: cs).length = (s :: l).length ∧ ∃ ls : List Loc, ls.length = cntA (c :: cs) ∧ ∀ ρc : Nat → Loc, (∀ (j : Nat) (l : Loc), ls[j]? = some l → ρc (n + j) = l) →
          (canA (c :: cs) n).map (SV.conc ρc) = (x :: m).map (SV.conc ρ) ∧ ∀ i b, look (canH (c :: cs) n) i = some b → n ≤ i ∧ i < n + cntA (c :: cs) ∧ ∃ k zs, b = ⟨2, 0, [.arr k zs]⟩ ∧ RowAt w (ρc i) k zs := by
        intro k zs lc hc hrow hx
        subst hc
        obtain ⟨hlen, ls, hls, h3⟩ := canon hG l m cs q (n + 1) h2 hp.2
        refine ⟨by simp [hlen], lc :: ls, by simp [cntA, hls], fun ρc hρ => ?_⟩
        have h0 : ρc n = lc := hρ 0 lc rfl
        obtain ⟨h4, h5⟩ := h3 ρc fun j lj hj => by
          have := hρ (j + 1) lj (by simpa using hj)
          rw [show n + 1 + j = n + (j + 1) by omega]
          exact this
        refine ⟨by simp only [canA, List.map_cons, h4, hx ρc h0], fun i b hb => ?_⟩
        simp only [canH, look_cons] at hb
        by_cases hi : n = i
        · subst hi
          rw [if_pos rfl] at hb
          injection hb with hb
          subst hb
          exact ⟨Nat.le_refl _, by simp only [cntA]; omega, k, zs, rfl, by rw [h0]; exact hrow⟩
        · rw [if_neg hi] at hb
          obtain ⟨h6, h7, h8⟩ := h5 i b hb
          exact ⟨by omega, by simp only [cntA]; omega, h8⟩
      have plain : cntA (c :: cs) = cntA cs → (∀ k, canH (c :: cs) k = canH cs k) → (∃ y, (∀ k, canA (c :: cs) k = y :: canA cs k) ∧ ∀ ρc : Nat → Loc, y.conc ρc = x.conc ρ) → (c :: cs).length = (s :: l).length ∧ ∃ ls : List Loc, ls.length = cntA (c :: cs) ∧ ∀ ρc : Nat → Loc, (∀ (j : Nat) (l : Loc), ls[j]? = some l → ρc (n + j) = l) →
          (canA (c :: cs) n).map (SV.conc ρc) = (x :: m).map (SV.conc ρ) ∧ ∀ i b, look (canH (c :: cs) n) i = some b → n ≤ i ∧ i < n + cntA (c :: cs) ∧ ∃ k zs, b = ⟨2, 0, [.arr k zs]⟩ ∧ RowAt w (ρc i) k zs := by
        intro e1 e2 ⟨y, e3, hy⟩
        obtain ⟨hlen, ls, hls, h3⟩ := canon hG l m cs q n h2 hp.2
        refine ⟨by simp [hlen], ls, by rw [e1, hls], fun ρc hρ => ?_⟩
        obtain ⟨h4, h5⟩ := h3 ρc hρ
        refine ⟨by rw [e3, List.map_cons, List.map_cons, h4, hy], fun i b hb => ?_⟩
        rw [e2] at hb
        rw [e1]
        exact h5 i b hb
      have hp1 := hp.1
      unfold readA at h1
      split at h1
      · split at h1
        · rename_i k j z hk
          simp only [Option.some.injEq, Prod.mk.injEq] at h1
          obtain ⟨rfl, rfl⟩ := h1
          have := ik_inj hk
          subst this
          exact plain rfl (fun _ => rfl) ⟨_, fun _ => rfl, fun _ => rfl⟩
        · cases h1
      · simp only [Option.some.injEq, Prod.mk.injEq] at h1
        obtain ⟨rfl, rfl⟩ := h1
        exact plain rfl (fun _ => rfl) ⟨_, fun _ => rfl, fun _ => rfl⟩
      · rename_i k
        simp only [Option.some.injEq, Prod.mk.injEq] at h1
        obtain ⟨rfl, rfl⟩ := h1
        exact row k [] ⟨none, 0⟩ rfl ⟨Nat.le_refl _, .inl rfl, fun x hx => by cases hx⟩ fun ρc h0 => by simp [SV.conc, AV.conc, Seg.conc, h0, radr]
      · rename_i k id off len cap
        split at h1
        · rename_i b hb
          split at h1
          · rename_i zs hz
            simp only [Option.some.injEq, Prod.mk.injEq] at h1
            obtain ⟨rfl, rfl⟩ := h1
            obtain ⟨hl1, hl2⟩ : off + len ≤ zs.length ∧ len ≤ cap := hp1
            obtain ⟨e1, e2⟩ := row_part hG hb hz hl1
            refine row k _ ⟨(ρ id).a.map (·.add off), cap⟩ rfl ⟨by rw [e1]; exact hl2, e2.imp (fun h => h) fun ⟨x, hx, h⟩ => ⟨x.add off, by simp [hx], h⟩, fun x hx => ?_⟩ fun ρc h0 => ?_
            · simp only [Option.map_eq_some_iff] at hx
              obtain ⟨y, hy, rfl⟩ := hx
              have := hG.lt id b y hb hy
              have e : (y.add off).block = y.block := by unfold Addr.add; split <;> rfl
              rw [e]; exact this
            · simp only [SV.conc, AV.conc, Seg.conc, h0, radr, e1]
              cases (ρ id).a <;> simp [Addr.add]
          · cases h1
        · cases h1
      · rename_i k id off len ad
        split at h1
        · rename_i b hb
          split at h1
          · rename_i zs hz hk
            simp only [Option.some.injEq, Prod.mk.injEq] at h1
            obtain ⟨rfl, rfl⟩ := h1
            have hl1 : off + len ≤ zs.length := hp1
            obtain ⟨e1, e2⟩ := row_part hG hb hz hl1
            have hcap : zs.length ≤ (ρ id).cap := by
              have := ((hG.blk id b hb).2.2.ro (.inr (Nat.le_of_ble_eq_true hk))).1
              rw [intsOf_spec ρ _ _ hz, List.length_map] at this
              exact this
            refine row k _ ⟨radr (ρ id) off ad, (ρ id).cap - off⟩ rfl ⟨by rw [e1]; simp only; omega, ?_, fun x hx => ?_⟩ fun ρc h0 => ?_
            · rcases e2 with h | ⟨x, hx, h⟩
              · exact .inl h
              · by_cases h0 : len = 0
                · exact .inl (List.eq_nil_of_length_eq_zero (by rw [e1, h0]))
                · exact .inr ⟨x.add off, by simp only [radr, hx, Option.map_some]; rw [if_neg (by omega)], h⟩
            · simp only [radr, Option.map_eq_some_iff] at hx
              obtain ⟨y, hy, rfl⟩ := hx
              have := hG.lt id b y hb hy
              have e : ∀ o, (y.add o).block = y.block := fun o => by unfold Addr.add; split <;> rfl
              rw [e]; exact this
            · simp only [SV.conc, AV.conc, Seg.conc, h0, e1]
              congr 1
              unfold radr
              simp only
              cases (ρ id).a <;> simp [Addr.add]
          · cases h1
        · cases h1
      · split at h1
        · rename_i k a zs hz hagg
          simp only [Option.some.injEq, Prod.mk.injEq] at h1
          obtain ⟨rfl, rfl⟩ := h1
          refine plain rfl (fun _ => rfl) ⟨_, fun _ => rfl, fun ρc => ?_⟩
          rw [conc_av, conc_av, aggB_conc ρ hagg, intsOf_spec ρ _ _ hz]
          rfl
        · cases h1
      · cases h1
    · cases h
omit [GT] in
theorem canA_in : ∀ (cas : List CA) (n : Nat), ∀ s ∈ canA cas n, s.In (· < n + cntA cas)
  | [], n, s, h => by cases h
  | .i k z :: l, n, s, h => by
    rcases List.mem_cons.1 h with rfl | h
    · exact fun s hs => by simp [AV.segs] at hs; subst hs; trivial
    · exact canA_in l n s h
  | .b x :: l, n, s, h => by
    rcases List.mem_cons.1 h with rfl | h
    · exact fun s hs => by simp [AV.segs] at hs; subst hs; trivial
    · exact canA_in l n s h
  | .ag k zs :: l, n, s, h => by
    rcases List.mem_cons.1 h with rfl | h
    · exact fun s hs => by simp [AV.segs] at hs; subst hs; trivial
    · exact canA_in l n s h
  | .sl k zs :: l, n, s, h => by
    rcases List.mem_cons.1 h with rfl | h
    · refine fun s hs => ?_
      simp [AV.segs] at hs
      subst hs
      show n < n + (cntA l + 1)
      omega
    · exact (canA_in l (n + 1) s h).mono fun i hi => by
        show i < n + (cntA l + 1)
        have : i < n + 1 + cntA l := hi
        omega
omit [GT] in
theorem canA_len : ∀ (cas : List CA) (n : Nat), (canA cas n).length = cas.length
  | [], _ => rfl
  | .i _ _ :: l, n => by simp [canA, canA_len l]
  | .b _ :: l, n => by simp [canA, canA_len l]
  | .sl _ _ :: l, n => by simp [canA, canA_len l]
  | .ag _ _ :: l, n => by simp [canA, canA_len l]
/-- A package's variable that a contract reads: its number, and what it holds. -/
abbrev GV := Nat × IntKind × List Int
omit [GT] in
def gH : List GV → Nat → List (Nat × Blk)
  | [], _ => []
  | (_, k, l) :: gs, n => (n, ⟨2, 0, [.arr k l]⟩) :: gH gs (n + 1)
omit [GT] in
def gL : List GV → Nat → List (Nat × Nat)
  | [], _ => []
  | (g, _, _) :: gs, n => (g, n) :: gL gs (n + 1)
omit [GT] in
theorem look_app {α : Type} (n : Nat) : ∀ (l m : List (Nat × α)), look (l ++ m) n = (look l n).or (look m n)
  | [], m => by simp [look]
  | (k, x) :: l, m => by
    rw [List.cons_append, look_cons, look_cons, look_app n l m]
    split <;> rfl
omit [GT] in
theorem gH_spec : ∀ (gs : List GV) (n i : Nat) (b : Blk), look (gH gs n) i = some b → n ≤ i ∧ i < n + gs.length ∧ ∃ x, gs[i - n]? = some x ∧ b = ⟨2, 0, [.arr x.2.1 x.2.2]⟩
  | [], n, i, b, h => by cases h
  | (g, k, l) :: gs, n, i, b, h => by
    simp only [gH, look_cons] at h
    by_cases hi : n = i
    · subst hi
      rw [if_pos rfl] at h
      injection h with h
      subst h
      exact ⟨Nat.le_refl _, by simp, (g, k, l), by simp, rfl⟩
    · rw [if_neg hi] at h
      obtain ⟨h1, h2, x, hx, hb⟩ := gH_spec gs (n + 1) i b h
      refine ⟨by omega, by simp only [List.length_cons]; omega, x, ?_, hb⟩
      rw [show i - n = (i - (n + 1)) + 1 by omega, List.getElem?_cons_succ]
      exact hx
omit [GT] in
theorem gL_spec : ∀ (gs : List GV) (n g i : Nat), look (gL gs n) g = some i → n ≤ i ∧ i < n + gs.length ∧ ∃ x, gs[i - n]? = some x ∧ x.1 = g
  | [], n, g, i, h => by cases h
  | (g0, k, l) :: gs, n, g, i, h => by
    simp only [gL, look_cons] at h
    by_cases hg : g0 = g
    · subst hg
      rw [if_pos rfl] at h
      injection h with h
      subst h
      exact ⟨Nat.le_refl _, by simp, (g0, k, l), by simp, rfl⟩
    · rw [if_neg hg] at h
      obtain ⟨h1, h2, x, hx, hb⟩ := gL_spec gs (n + 1) g i h
      refine ⟨by omega, by simp only [List.length_cons]; omega, x, ?_, hb⟩
      rw [show i - n = (i - (n + 1)) + 1 by omega, List.getElem?_cons_succ]
      exact hx
/-- The memory that a contract's run begins with. -/
theorem can_hr {cas : List CA} {gs : List GV} (hgs : ∀ x, x ∈ gs → (x.1, x.2.2.map (Value.int x.2.1)) ∈ GT.tab) {ρc : Nat → Loc} (hgw : GWok w.heap.size [] w) (hρ : ∀ i x, gs[i]? = some x → ρc (cntA cas + i) = ⟨some ⟨x.1, 0, none⟩, x.2.2.length⟩) (h : ∀ i b, look (canH cas 0) i = some b → 0 ≤ i ∧ i < 0 + cntA cas ∧ ∃ k zs, b = ⟨2, 0, [.arr k zs]⟩ ∧ RowAt w (ρc i) k zs) : HR ρc (· < cntA cas + gs.length) w.heap.size [] (look (canH cas 0 ++ gH gs (cntA cas))) w := by
  have hall : ∀ i b, look (canH cas 0 ++ gH gs (cntA cas)) i = some b → i < cntA cas + gs.length ∧ ∃ k zs, b = ⟨2, 0, [.arr k zs]⟩ ∧ RowAt w (ρc i) k zs := fun i b hb => by
    rw [look_app] at hb
    cases h1 : look (canH cas 0) i with
    | some b' =>
      rw [h1] at hb
      simp only [Option.some_or, Option.some.injEq] at hb
      subst hb
      obtain ⟨_, h2, h3⟩ := h i b' h1
      exact ⟨by omega, h3⟩
    | none =>
      rw [h1, Option.none_or] at hb
      obtain ⟨h2, h3, x, hx, rfl⟩ := gH_spec _ _ _ _ hb
      obtain ⟨g1, g2, cs, ty, mk, g3, g4⟩ := hgw _ (hgs x (List.mem_of_getElem? hx))
      have e := hρ _ x hx
      rw [show cntA cas + (i - cntA cas) = i by omega] at e
      refine ⟨h3, x.2.1, x.2.2, rfl, by rw [e]; exact Nat.le_refl _, ?_, fun y hy => ?_⟩
      · right
        refine ⟨⟨x.1, 0, none⟩, by rw [e], fun j u hj => ?_⟩
        rw [Addr.add_lit]
        simp only at g3 g4
        rw [← g4] at hj
        simp only [World.cell?, g3, Nat.zero_add]
        simpa using hj
      · rw [e] at hy
        injection hy with hy
        subst hy
        exact g1
  refine ⟨Nat.le_refl _, fun i b hb => ?_, fun i b x hb hx => ?_, fun i b x hb hk hx => ?_, fun i j bi bj x y hi hj hij hk hx hy => ?_, hgw⟩
  · obtain ⟨h2, k, zs, rfl, h3, h4, _⟩ := hall i b hb
    refine ⟨h2, fun s hs => (by simp at hs; subst hs; trivial), ?_⟩
    show (segsVals _ _).length ≤ _ ∧ _
    rw [segsVals_one]
    refine ⟨by simpa [Seg.vals] using h3, ?_⟩
    rcases h4 with rfl | h4
    · exact .inl rfl
    · exact .inr h4
  · obtain ⟨_, k, zs, rfl, _, _, h5⟩ := hall i b hb
    exact h5 x hx
  · obtain ⟨_, k, zs, rfl, _⟩ := hall i b hb
    simp at hk
  · obtain ⟨_, k, zs, rfl, _⟩ := hall i bi hi
    simp at hk

/-! ### Names, twice -/
omit [GT] in
theorem Seg.ren_ren (f g : Nat → Nat) (s : Seg) : (s.ren g).ren f = s.ren fun e => f (g e) := by cases s <;> rfl
omit [GT] in
theorem renL_ren (f g : Nat → Nat) (l : List Seg) : renL f (renL g l) = renL (fun e => f (g e)) l := by
  rw [renL_map, renL_map, renL_map, List.map_map]
  exact List.map_congr_left fun s _ => Seg.ren_ren f g s
omit [GT] in
theorem AV.ren_ren (f g : Nat → Nat) (a : AV) : (a.ren g).ren f = a.ren fun e => f (g e) := by
  cases a with
  | one s => simp [AV.ren, Seg.ren_ren]
  | agg l => simp [AV.ren, renL_ren]
omit [GT] in
theorem SV.ren_ren (f g : Nat → Nat) (s : SV) : (s.ren g).ren f = s.ren fun e => f (g e) := by
  cases s with
  | av a => simp [SV.ren, AV.ren_ren]
  | tup l =>
    simp only [SV.ren, renT_map, List.map_map]
    congr 1
    exact List.map_congr_left fun a _ => AV.ren_ren f g a
omit [GT] in
theorem newOf_ren (hp : List (Nat × Blk)) (f g : Nat → Nat) : ∀ es : List Nat, newOf hp (fun e => f (g e)) es = (newOf hp g es).map fun b => ⟨b.k, b.ty, renL f b.c⟩
  | [] => rfl
  | e :: l => by
    unfold newOf
    split
    · simp [newOf_ren hp f g l, renL_ren]
    · exact newOf_ren hp f g l

/-! ### Contracts -/
structure CR where
  pre : Prop := True
  val : SV
  new : List Blk := []
omit [GT] in
def entC (sh : List Sh) (F : List CA → Option CR) : Ent := fun args G base => match readAs G sh args with
  | some (cas, p) => match F cas with
    | some r => some { val := r.val.ren (fun e => base + e), new := r.new.map fun b => ⟨b.k, b.ty, renL (fun e => base + e) b.c⟩, asm := p.and (.say r.pre) }
    | none => none
  | none => none
omit [GT] in
def endB (st : St) (v : SV) (es : List Nat) : Bool := v.allB (expB 0 es fun _ => false) && (es.all (esB 0 st.hp (expB 0 es fun _ => false)) && nodupB es)
/-- A run's end, as a contract tells it. -/
def Ends (P : Program) (T : List (Nat × Ty)) (gs : List GV) (fn : Func) (cas : List CA) (r : CR) : Prop :=
  ∃ todo' st v es, (todo' = [] ∨ todo' = [.fin]) ∧ From P fn (canA cas 0) (canH cas 0 ++ gH gs (cntA cas)) (cntA cas + gs.length) (gL gs (cntA cas)) todo' st ∧ resVal T st fn.results.toList = some v ∧ endB st v es = true ∧ (v.ren (fun e => idx e es), newOf st.hp (fun e => idx e es) es) = (r.val, r.new)
theorem ok_C (hT : TOK P T) {f : FuncId} {fn : Func} (hf : P.funcs[f]? = some fn) (hname : (fn.name == "runtime.NumGoroutine") = false) (hbs : fn.body.isSome = true) (gs : List GV) (hgs : ∀ x, x ∈ gs → (x.1, x.2.2.map (Value.int x.2.1)) ∈ GT.tab) {sh : List Sh} {F : List CA → Option CR} (hlen : Nat.ble sh.length fn.ntmps = true)
    (h : ∀ cas r, F cas = some r → r.pre → Ends P T gs fn cas r) : EntOK P f (entC sh F) := by
  refine ⟨⟨fn, hf, hname, hbs⟩, fun args G base res hr ha ρ D N M w hG hin hfr => ?_⟩
  unfold entC at hr
  split at hr
  · rename_i cas p hread
    split at hr
    · rename_i r hF
      simp only [Option.some.injEq] at hr
      subst hr
      obtain ⟨hap, har⟩ := ha
      have har : r.pre := har
      obtain ⟨todo', st, v, es, hfin, ⟨c, hc, hRe⟩, hv, hend, heq⟩ := h cas r hF har
      simp only [Prod.mk.injEq] at heq
      obtain ⟨hrv, hrn⟩ := heq
      obtain ⟨hcl, ls, hls, hcan⟩ := canon hG sh args cas p 0 hread hap
      obtain ⟨ρc, hρc⟩ : ∃ ρc : Nat → Loc, ρc = fun i => if i < cntA cas then ls.getD i ⟨none, 0⟩ else match gs[i - cntA cas]? with
        | some x => ⟨some ⟨x.1, 0, none⟩, x.2.2.length⟩
        | none => ⟨none, 0⟩ := ⟨_, rfl⟩
      obtain ⟨h4, h5⟩ := hcan ρc fun j l hj => by
        have hjl := (List.getElem?_eq_some_iff.1 hj).1
        rw [hρc, Nat.zero_add]
        simp only
        rw [if_pos (by omega), List.getD_eq_getElem?_getD, hj]; rfl
      have hρg : ∀ i x, gs[i]? = some x → ρc (cntA cas + i) = ⟨some ⟨x.1, 0, none⟩, x.2.2.length⟩ := fun i x hx => by
        rw [hρc]
        simp only
        rw [if_neg (by omega), show cntA cas + i - cntA cas = i by omega, hx]
      unfold endB at hend
      rw [Bool.and_eq_true, Bool.and_eq_true] at hend
      have hl : es.length = r.new.length := by
        rw [← hrn]
        refine ((newOf_spec (hp := st.hp) (τ := fun e => idx e es) (es := es) fun e he => ?_).1).symm
        have := List.all_eq_true.1 hend.2.1 e he
        unfold esB at this
        split at this
        · rename_i b hb; exact ⟨b, hb⟩
        · cases this
      have hcall := reach_newG (D := D) (N := N) (M := M) (G := G) (base := base) (ρ := ρ) hT hf hc (avs := canA cas 0) hfin hRe hv hend.1 hend.2.1 hend.2.2 (by rw [canA_len, hcl]; exact hlen) (fun s hs => by
        refine (canA_in cas 0 s hs).mono fun i hi => ?_
        have : i < 0 + cntA cas := hi
        show i < cntA cas + gs.length
        omega) (can_hr hgs (hG.gw.call hG.size fun g hg => by cases hg) hρg h5) (fun g id hg => by
        obtain ⟨g1, g2, x, hx, rfl⟩ := gL_spec _ _ _ _ hg
        have := hρg _ x hx
        rw [show cntA cas + (id - cntA cas) = id by omega] at this
        exact ⟨by rw [this], g2⟩) hG (fun id h1 h2 => hfr id h1 (by simp only [List.length_map]; omega)) (r := { val := r.val.ren (fun e => base + e), new := r.new.map fun b => ⟨b.k, b.ty, renL (fun e => base + e) b.c⟩, asm := p.and (.say r.pre) }) (by
          rw [← hrv, ← hrn, SV.ren_ren, ← newOf_ren])
      rw [h4] at hcall
      exact hcall
    · cases hr
  · cases hr

end
end Go.Proofs.YtpefomdegbmecaaDoor.Am
/- The abstract machine: contracts by what the arguments read as, with structs behind pointers, rows of rows, and blocks that change. Conditions: none. -/
namespace Go.Proofs.YtpefomdegbmecaaDoor.Am
set_option linter.unusedVariables false
set_option linter.unusedSimpArgs false
open Go Go.RowKit

/-- A cell or more of a struct, by what it reads as: as it is (no place in it); integers; a slice of integers; a pointer to integers; a cell that is kept, whatever it is. -/
inductive CF where
  | sg (s : Seg)
  | ag (k : IntKind) (l : List Int)
  | sl (k : IntKind) (l : List Int)
  | pi (k : IntKind) (l : List Int)
  | kp (i : Nat)
/-- An argument: as it is; integers; a slice of integers; a slice of such cells; a pointer to a struct that may change, or that is read; a slice of cells of which only the values are known. -/
inductive CB where
  | av (a : AV)
  | ag (k : IntKind) (l : List Int)
  | sl (k : IntKind) (l : List Int)
  | rs (cap : Nat) (fs : List CF)
  | mu (ty : TypeId) (fs : List CF)
  | rd (fs : List CF)
  | ro (cap : Nat) (vs : List Value)
/-- Shapes; sw: a slice that is a whole row. -/
inductive ShF where
  | sg | ag (k : IntKind) (n : Nat) | sl (k : IntKind) | sw (k : IntKind) | pi (k : IntKind) | kp
inductive ShB where
  | av | ag (k : IntKind) | sl (k : IntKind) | sw (k : IntKind) | rs (fs : List ShF) | mu (ty : TypeId) (fs : List ShF) | rd (fs : List ShF) | ro

def fS (κ : Nat → Value) : List CF → Nat → List Seg
  | [], _ => []
  | .sg s :: l, n => s :: fS κ l n
  | .ag k zs :: l, n => .arr k zs :: fS κ l n
  | .sl _ zs :: l, n => .r n 0 zs.length 0 :: fS κ l (n + 1)
  | .pi _ _ :: l, n => .p n 0 :: fS κ l (n + 1)
  | .kp i :: l, n => .v (κ i) :: fS κ l n
def fB : List CF → Nat → List (Nat × Blk)
  | [], _ => []
  | .sl k zs :: l, n => (n, ⟨2, 0, [.arr k zs]⟩) :: fB l (n + 1)
  | .pi k zs :: l, n => (n, ⟨2, 0, [.arr k zs]⟩) :: fB l (n + 1)
  | _ :: l, n => fB l n
def fN : List CF → Nat
  | [] => 0
  | .sl _ _ :: l => fN l + 1
  | .pi _ _ :: l => fN l + 1
  | _ :: l => fN l
/-- Nothing is kept. -/
def κ0 : Nat → Value := fun _ => undef
def bA : List CB → Nat → Nat → List SV
  | [], _, _ => []
  | .av a :: l, m, n => .av a :: bA l m n
  | .ag k zs :: l, m, n => .av (.one (.arr k zs)) :: bA l m n
  | .sl _ zs :: l, m, n => .av (.one (.r n 0 zs.length 0)) :: bA l m (n + 1)
  | .rs cap fs :: l, m, n => .av (.one (.s n 0 fs.length cap)) :: bA l m (n + (1 + fN fs))
  | .mu _ fs :: l, m, n => .av (.one (.p m 0)) :: bA l (m + 1) (n + fN fs)
  | .rd fs :: l, m, n => .av (.one (.p n 0)) :: bA l m (n + (1 + fN fs))
  | .ro cap vs :: l, m, n => .av (.one (.s n 0 vs.length cap)) :: bA l m (n + 1)
def bH (κ : Nat → Value) : List CB → Nat → Nat → List (Nat × Blk)
  | [], _, _ => []
  | .sl k zs :: l, m, n => (n, ⟨2, 0, [.arr k zs]⟩) :: bH κ l m (n + 1)
  | .rs _ fs :: l, m, n => (n, ⟨2, 0, fS κ fs (n + 1)⟩) :: (fB fs (n + 1) ++ bH κ l m (n + (1 + fN fs)))
  | .mu ty fs :: l, m, n => (m, ⟨0, ty, fS κ fs n⟩) :: (fB fs n ++ bH κ l (m + 1) (n + fN fs))
  | .rd fs :: l, m, n => (n, ⟨2, 0, fS κ fs (n + 1)⟩) :: (fB fs (n + 1) ++ bH κ l m (n + (1 + fN fs)))
  | .ro _ vs :: l, m, n => (n, ⟨2, 0, [.vs vs]⟩) :: bH κ l m (n + 1)
  | _ :: l, m, n => bH κ l m n
def bM : List CB → Nat
  | [] => 0
  | .mu _ _ :: l => bM l + 1
  | _ :: l => bM l
def bR : List CB → Nat
  | [] => 0
  | .sl _ _ :: l => 1 + bR l
  | .rs _ fs :: l => 1 + fN fs + bR l
  | .mu _ fs :: l => fN fs + bR l
  | .rd fs :: l => 1 + fN fs + bR l
  | .ro _ _ :: l => 1 + bR l
  | _ :: l => bR l
def bT : List CB → List TypeId
  | [] => []
  | .mu ty _ :: l => ty :: bT l
  | _ :: l => bT l

def intsO (k : IntKind) : List Seg → Option (List Int)
  | [.arr j zs] => match Nat.beq (ik j) (ik k) with
    | true => some zs
    | false => none
  | [.ap j F n] => match Nat.beq (ik j) (ik k) with
    | true => some (F n)
    | false => none
  | l => intsOf k l
def freeB (s : Seg) : Bool := match s with
  | .p _ _ => false
  | .s _ _ _ _ => false
  | .r _ _ _ _ => false
  | .m _ => false
  | _ => true
def readSl (wh : Bool) (G : Nat → Option Blk) (k : IntKind) : Seg → Option (List Int × Asm)
  | .v (.slice none 0 0) => some ([], .tt)
  | .s id off len cap => match G id with
    | some b => match intsO k b.c with
      | some zs => match wh with
        | false => some (cutI zs off len, .say (off + len ≤ zs.length ∧ len ≤ cap))
        | true => match Nat.beq off 0 with
          | true => some (zs, .say (len = zs.length ∧ len ≤ cap))
          | false => none
      | none => none
    | none => none
  | .r id off len _ => match G id with
    | some b => match intsO k b.c, Nat.ble 1 b.k with
      | some zs, true => match wh with
        | false => some (cutI zs off len, .say (off + len ≤ zs.length))
        | true => match Nat.beq off 0 with
          | true => some (zs, .say (len = zs.length))
          | false => none
      | _, _ => none
    | none => none
  | _ => none
/-- Is it one cell, with or without a place in it? -/
def oneB (s : Seg) : Bool := match s with
  | .v _ => true
  | .p _ _ => true
  | .s _ _ _ _ => true
  | .r _ _ _ _ => true
  | _ => false
def readF (G : Nat → Option Blk) : Nat → List ShF → List Seg → Option (List CF × List Seg × Asm)
  | _, [], c => match c with
    | [] => some ([], [], .tt)
    | _ => none
  | q, .sg :: s, c => match c with
    | x :: c' => match freeB x && segsOk [x], readF G q s c' with
      | true, some (r, ks, p) => some (.sg x :: r, ks, p)
      | _, _ => none
    | [] => none
  | q, .ag k n :: s, c => match cut c n with
    | some (a, c') => match intsO k a, readF G q s c' with
      | some zs, some (r, ks, p) => some (.ag k zs :: r, ks, p)
      | _, _ => none
    | none => none
  | q, .sl k :: s, c => match c with
    | x :: c' => match readSl false G k x, readF G q s c' with
      | some (zs, p'), some (r, ks, p) => some (.sl k zs :: r, ks, p'.and p)
      | _, _ => none
    | [] => none
  | q, .sw k :: s, c => match c with
    | x :: c' => match readSl true G k x, readF G q s c' with
      | some (zs, p'), some (r, ks, p) => some (.sl k zs :: r, ks, p'.and p)
      | _, _ => none
    | [] => none
  | q, .pi k :: s, c => match c with
    | .p id 0 :: c' => match G id with
      | some b => match intsO k b.c, readF G q s c' with
        | some zs, some (r, ks, p) => some (.pi k zs :: r, ks, p)
        | _, _ => none
      | none => none
    | _ => none
  | q, .kp :: s, c => match c with
    | x :: c' => match oneB x, readF G (q + 1) s c' with
      | true, some (r, ks, p) => some (.kp q :: r, x :: ks, p)
      | _, _ => none
    | [] => none
def readB (R G : Nat → Option Blk) (q : Nat) : ShB → SV → Option (CB × List Nat × List Seg × Asm)
  | .av, .av a => match a.segs.all freeB && segsOk a.segs with
    | true => some (.av a, [], [], .tt)
    | false => none
  | .ag k, .av a => match intsO k a.segs, aggB a with
    | some zs, true => some (.ag k zs, [], [], .tt)
    | _, _ => none
  | .sl k, .av (.one x) => match readSl false R k x with
    | some (zs, p) => some (.sl k zs, [], [], p)
    | none => none
  | .sw k, .av (.one x) => match readSl true R k x with
    | some (zs, p) => some (.sl k zs, [], [], p)
    | none => none
  | .rs fs, .av (.one (.s id 0 len cap)) => match R id with
    | some b => match readF R q fs b.c with
      | some (r, ks, p) => match Nat.beq len r.length with
        | true => some (.rs cap r, [], ks, p)
        | false => none
      | none => none
    | none => none
  | .mu ty fs, .av (.one (.p id 0)) => match G id with
    | some b => match Nat.beq b.k 0 && Nat.beq b.ty ty, readF R q fs b.c with
      | true, some (r, ks, p) => some (.mu ty r, [id], ks, p)
      | _, _ => none
    | none => none
  | .rd fs, .av (.one (.p id 0)) => match R id with
    | some b => match readF R q fs b.c with
      | some (r, ks, p) => some (.rd r, [], ks, p)
      | none => none
    | none => none
  | .ro, .av (.one (.s id 0 len cap)) => match R id with
    | some b => match b.c with
      | [.vs vs] => some (.ro cap vs, [], [], .say (len = vs.length))
      | _ => none
    | none => none
  | _, _ => none
def readBs (R G : Nat → Option Blk) : Nat → List ShB → List SV → Option (List CB × List Nat × List Seg × Asm)
  | _, [], [] => some ([], [], [], .tt)
  | q, s :: l, x :: m => match readB R G q s x with
    | some (c, i, ks, p) => match readBs R G (q + ks.length) l m with
      | some (cs, is, ks', p') => some (c :: cs, i ++ is, ks ++ ks', p.and p')
      | none => none
    | none => none
  | _, _, _ => none
def msOf : List ShB → List SV → List Nat
  | .mu _ _ :: l, .av (.one (.p id 0)) :: m => id :: msOf l m
  | _ :: l, _ :: m => msOf l m
  | _, _ => []
def hide (G : Nat → Option Blk) (ms : List Nat) (id : Nat) : Option Blk := match memB id ms with
  | true => none
  | false => G id

section
variable {P : Program} {T : List (Nat × Ty)} {ρ : Nat → Loc} {D : Nat → Prop} {N : Nat} {M : List Nat} {G : Nat → Option Blk} {base : Nat} {w : World}
variable [GT]

omit [GT] in
theorem intsO_spec (ρ : Nat → Loc) {k : IntKind} {l : List Seg} {zs : List Int} (h : intsO k l = some zs) : segsVals ρ l = zs.map (Value.int k) := by
  unfold intsO at h
  split at h
  · split at h
    · rename_i j zs' hk
      injection h with h
      subst h
      have := ik_inj hk
      subst this
      rw [segsVals_one]; rfl
    · cases h
  · split at h
    · rename_i j F n hk
      injection h with h
      subst h
      have := ik_inj hk
      subst this
      rw [segsVals_one]; rfl
    · cases h
  · exact intsOf_spec ρ _ _ h
omit [GT] in
theorem freeB_ids {s : Seg} (h : freeB s = true) : s.ids = [] := by
  cases s <;> first | rfl | cases h
omit [GT] in
/-- What cells to be read need of their place. -/
def ReadAt (w : World) (l : Loc) (vs : List Value) : Prop :=
  vs.length ≤ l.cap ∧ (vs = [] ∨ ∃ x, l.a = some x ∧ ∀ j u, vs[j]? = some u → w.cell? (x.add j) = some u) ∧ ∀ x, l.a = some x → x.block < w.heap.size
omit [GT] in
/-- Where it lies is a block that is known. -/
def Src (ρ : Nat → Loc) (G : Nat → Option Blk) (l : Loc) : Prop := ∀ y, l.a = some y → ∃ id0 b0 x0, G id0 = some b0 ∧ (ρ id0).a = some x0 ∧ x0.block = y.block
omit [GT] in
theorem RowAt.read {l : Loc} {k : IntKind} {zs : List Int} (h : RowAt w l k zs) : ReadAt w l (zs.map (Value.int k)) := by
  obtain ⟨h1, h2, h3⟩ := h
  exact ⟨by simpa using h1, h2.imp (fun h => by rw [h]; rfl) fun h => h, h3⟩
theorem row_part' (hG : HR ρ D N M G w) {id : Nat} {b : Blk} (hb : G id = some b) {k : IntKind} {zs : List Int} (hz : intsO k b.c = some zs) {off len : Nat} (hl : off + len ≤ zs.length) : (cutI zs off len).length = len ∧ (cutI zs off len = [] ∨ ∃ x, (ρ id).a = some x ∧ ∀ j u, ((cutI zs off len).map (Value.int k))[j]? = some u → w.cell? ((x.add off).add j) = some u) := by
  have hv := intsO_spec ρ hz
  rw [cutI_eq]
  have hlen : ((zs.drop off).take len).length = len := by rw [List.length_take, List.length_drop]; omega
  refine ⟨hlen, ?_⟩
  by_cases h0 : len = 0
  · left
    rw [h0, List.take_zero]
  right
  have hcell : ∀ j, j < len → ∃ x, (ρ id).a = some x ∧ w.cell? (x.add (off + j)) = some (.int k (zs.getD (off + j) 0)) := fun j hj => by
    refine (hG.blk id b hb).2.2.cells ?_
    rw [hv, List.getElem?_map, List.getElem?_eq_getElem (by omega)]
    simp [List.getD_eq_getElem?_getD, List.getElem?_eq_getElem (show off + j < zs.length by omega)]
  obtain ⟨x, hx, _⟩ := hcell 0 (by omega)
  refine ⟨x, hx, fun j u hj => ?_⟩
  have hjl : j < len := by
    rcases Nat.lt_or_ge j len with h | h
    · exact h
    · rw [List.getElem?_eq_none (by rw [List.length_map, hlen]; exact h)] at hj; cases hj
  rw [List.getElem?_map, List.getElem?_take, if_pos hjl, List.getElem?_drop, List.getElem?_eq_getElem (by omega)] at hj
  simp only [Option.map_some, Option.some.injEq] at hj
  subst hj
  obtain ⟨y, hy, hc⟩ := hcell j hjl
  rw [hx] at hy
  injection hy with hy
  subst hy
  rw [add_add, hc, List.getD_eq_getElem?_getD, List.getElem?_eq_getElem (by omega)]
  rfl
omit [GT] in
theorem add_block (y : Addr) (o : Nat) : (y.add o).block = y.block := by unfold Addr.add; split <;> rfl
theorem readSl_spec (hG : HR ρ D N M G w) {wh : Bool} {k : IntKind} {x : Seg} {zs : List Int} {p : Asm} (h : readSl wh G k x = some (zs, p)) (hp : p.holds) : ∃ l : Loc, RowAt w l k zs ∧ Src ρ G l ∧ ∀ (ρc : Nat → Loc) (n : Nat), ρc n = l → Seg.vals ρc (.r n 0 zs.length 0) = x.vals ρ ∧ Seg.conc ρc (.r n 0 zs.length 0) = x.conc ρ := by
  have vals : ∀ (l : Loc), RowAt w l k zs → Src ρ G l → (∀ (ρc : Nat → Loc) (n : Nat), ρc n = l → Seg.conc ρc (.r n 0 zs.length 0) = x.conc ρ) → x.vals ρ = [x.conc ρ] → ∃ l : Loc, RowAt w l k zs ∧ Src ρ G l ∧ ∀ (ρc : Nat → Loc) (n : Nat), ρc n = l → Seg.vals ρc (.r n 0 zs.length 0) = x.vals ρ ∧ Seg.conc ρc (.r n 0 zs.length 0) = x.conc ρ :=
    fun l h1 hs h2 h3 => ⟨l, h1, hs, fun ρc n hn => ⟨by rw [h3, ← h2 ρc n hn]; rfl, h2 ρc n hn⟩⟩
  have sCase : ∀ (id off len cap : Nat) (b : Blk) (zs0 : List Int), x = .s id off len cap → G id = some b → intsO k b.c = some zs0 → off + len ≤ zs0.length → len ≤ cap → cutI zs0 off len = zs → ∃ l : Loc, RowAt w l k zs ∧ Src ρ G l ∧ ∀ (ρc : Nat → Loc) (n : Nat), ρc n = l → Seg.vals ρc (.r n 0 zs.length 0) = x.vals ρ ∧ Seg.conc ρc (.r n 0 zs.length 0) = x.conc ρ := by
    intro id off len cap b zs0 hx hb hz hl1 hl2 hc
    subst hx hc
    obtain ⟨e1, e2⟩ := row_part' hG hb hz hl1
    refine vals ⟨(ρ id).a.map (·.add off), cap⟩ ⟨by rw [e1]; exact hl2, e2.imp (fun h => h) fun ⟨x, hx, h⟩ => ⟨x.add off, by simp [hx], h⟩, fun x hx => ?_⟩ (fun x hx => ?_) (fun ρc n h0 => ?_) rfl
    · simp only [Option.map_eq_some_iff] at hx
      obtain ⟨y, hy, rfl⟩ := hx
      rw [add_block]
      exact hG.lt id b y hb hy
    · simp only [Option.map_eq_some_iff] at hx
      obtain ⟨y, hy, rfl⟩ := hx
      exact ⟨id, b, y, hb, hy, (add_block _ _).symm⟩
    · simp only [Seg.conc, h0, radr, e1]
      cases (ρ id).a <;> simp [Addr.add]
  have rCase : ∀ (id off len ad : Nat) (b : Blk) (zs0 : List Int), x = .r id off len ad → G id = some b → intsO k b.c = some zs0 → Nat.ble 1 b.k = true → off + len ≤ zs0.length → cutI zs0 off len = zs → ∃ l : Loc, RowAt w l k zs ∧ Src ρ G l ∧ ∀ (ρc : Nat → Loc) (n : Nat), ρc n = l → Seg.vals ρc (.r n 0 zs.length 0) = x.vals ρ ∧ Seg.conc ρc (.r n 0 zs.length 0) = x.conc ρ := by
    intro id off len ad b zs0 hx hb hz hk hl1 hc
    subst hx hc
    obtain ⟨e1, e2⟩ := row_part' hG hb hz hl1
    have hcap : zs0.length ≤ (ρ id).cap := by
      have := ((hG.blk id b hb).2.2.ro (.inr (Nat.le_of_ble_eq_true hk))).1
      rw [intsO_spec ρ hz, List.length_map] at this
      exact this
    refine vals ⟨radr (ρ id) off ad, (ρ id).cap - off⟩ ⟨by rw [e1]; simp only; omega, ?_, fun x hx => ?_⟩ (fun x hx => ?_) (fun ρc n h0 => ?_) rfl
    · rcases e2 with h | ⟨x, hx, h⟩
      · exact .inl h
      · by_cases h0 : len = 0
        · exact .inl (List.eq_nil_of_length_eq_zero (by rw [e1, h0]))
        · exact .inr ⟨x.add off, by simp only [radr, hx, Option.map_some]; rw [if_neg (by omega)], h⟩
    · simp only [radr, Option.map_eq_some_iff] at hx
      obtain ⟨y, hy, rfl⟩ := hx
      rw [add_block]
      exact hG.lt id b y hb hy
    · simp only [radr, Option.map_eq_some_iff] at hx
      obtain ⟨y, hy, rfl⟩ := hx
      exact ⟨id, b, y, hb, hy, (add_block _ _).symm⟩
    · simp only [Seg.conc, h0, e1]
      congr 1
      unfold radr
      simp only
      cases (ρ id).a <;> simp [Addr.add]
  unfold readSl at h
  split at h
  · simp only [Option.some.injEq, Prod.mk.injEq] at h
    obtain ⟨rfl, rfl⟩ := h
    exact vals ⟨none, 0⟩ ⟨Nat.le_refl _, .inl rfl, fun x hx => by cases hx⟩ (fun x hx => by cases hx) (fun ρc n h0 => by simp [Seg.conc, h0, radr]) rfl
  · rename_i id off len cap
    split at h
    · rename_i b hb
      split at h
      · rename_i zs0 hz
        split at h
        · simp only [Option.some.injEq, Prod.mk.injEq] at h
          obtain ⟨rfl, rfl⟩ := h
          obtain ⟨hl1, hl2⟩ : off + len ≤ zs0.length ∧ len ≤ cap := hp
          exact sCase id off len cap b zs0 rfl hb hz hl1 hl2 rfl
        · split at h
          · rename_i h0
            have h0 := Nat.eq_of_beq_eq_true h0
            subst h0
            simp only [Option.some.injEq, Prod.mk.injEq] at h
            obtain ⟨rfl, rfl⟩ := h
            obtain ⟨hl1, hl2⟩ : len = zs0.length ∧ len ≤ cap := hp
            exact sCase id 0 len cap b zs0 rfl hb hz (by omega) hl2 (by rw [hl1, cutI_all])
          · cases h
      · cases h
    · cases h
  · rename_i id off len ad
    split at h
    · rename_i b hb
      split at h
      · rename_i zs0 hz hk
        split at h
        · simp only [Option.some.injEq, Prod.mk.injEq] at h
          obtain ⟨rfl, rfl⟩ := h
          exact rCase id off len ad b zs0 rfl hb hz hk hp rfl
        · split at h
          · rename_i h0
            have h0 := Nat.eq_of_beq_eq_true h0
            subst h0
            simp only [Option.some.injEq, Prod.mk.injEq] at h
            obtain ⟨rfl, rfl⟩ := h
            have hl1 : len = zs0.length := hp
            exact rCase id 0 len ad b zs0 rfl hb hz hk (by omega) (by rw [hl1, cutI_all])
          · cases h
      · cases h
    · cases h
  · cases h

omit [GT] in
/-- A block of a contract's own memory, to be read. -/
def CanR (ρ : Nat → Loc) (G : Nat → Option Blk) (w : World) (ρc : Nat → Loc) (lo hi i : Nat) (b : Blk) : Prop :=
  lo ≤ i ∧ i < hi ∧ b.k = 2 ∧ segsIn (fun x => lo ≤ x ∧ x < hi) b.c ∧ ReadAt w (ρc i) (segsVals ρc b.c) ∧ Src ρ G (ρc i)
omit [GT] in
theorem CanR.mono {ρc : Nat → Loc} {lo hi lo' hi' i : Nat} {b : Blk} (h : CanR ρ G w ρc lo hi i b) (h1 : lo' ≤ lo) (h2 : hi ≤ hi') : CanR ρ G w ρc lo' hi' i b :=
  ⟨by have := h.1; omega, by have := h.2.1; omega, h.2.2.1, h.2.2.2.1.mono fun x hx => by omega, h.2.2.2.2⟩
omit [GT] in
theorem seg_free_vals {s : Seg} (h : freeB s = true) (ρ ρ' : Nat → Loc) : s.vals ρ' = s.vals ρ :=
  Seg.vals_congr (D := fun _ => False) (fun _ h => h.elim) (Seg.in_ids.2 fun i hi => by rw [freeB_ids h] at hi; cases hi)
omit [GT] in
theorem free_in {s : Seg} (h : freeB s = true) (D : Nat → Prop) : s.In D := Seg.in_ids.2 fun i hi => by rw [freeB_ids h] at hi; cases hi
omit [GT] in
theorem oneB_vals {s : Seg} (h : oneB s = true) (ρ : Nat → Loc) : s.vals ρ = [s.conc ρ] := by
  cases s <;> first | rfl | cases h
omit [GT] in
theorem cut_in {D : Nat → Prop} : ∀ (l : List Seg) (n : Nat) (a b : List Seg), cut l n = some (a, b) → segsIn D l → segsIn D b
  | [], 0, a, b, h, hl => by
    simp only [cut, Option.some.injEq, Prod.mk.injEq] at h
    obtain ⟨rfl, rfl⟩ := h
    exact hl
  | [], n + 1, a, b, h, _ => by simp [cut] at h
  | x :: l, 0, a, b, h, hl => by
    simp only [cut, Option.some.injEq, Prod.mk.injEq] at h
    obtain ⟨rfl, rfl⟩ := h
    exact hl
  | x :: l, n + 1, a, b, h, hl => by
    have hl' : segsIn D l := fun y hy => hl y (by simp [hy])
    have arr : ∀ (k : IntKind) (zs : List Int), segsIn D (.arr k zs :: l) := fun k zs y hy => by
      rcases List.mem_cons.1 hy with rfl | hy
      · trivial
      · exact hl' y hy
    unfold cut at h
    split at h
    · split at h
      · rename_i a' b' h'
        simp only [Option.some.injEq, Prod.mk.injEq] at h
        obtain ⟨rfl, rfl⟩ := h
        exact cut_in l _ _ _ h' hl'
      · cases h
    · split at h
      · simp only [Option.some.injEq, Prod.mk.injEq] at h
        obtain ⟨rfl, rfl⟩ := h
        exact arr _ _
      · simp only [Option.some.injEq, Prod.mk.injEq] at h
        obtain ⟨rfl, rfl⟩ := h
        exact arr _ _
      · simp only [Option.some.injEq, Prod.mk.injEq] at h
        obtain ⟨rfl, rfl⟩ := h
        exact arr _ _
      · cases h
omit [GT] in
theorem readF_in {D : Nat → Prop} {G : Nat → Option Blk} : ∀ (shs : List ShF) (q : Nat) (c : List Seg) (cfs : List CF) (ks : List Seg) (p : Asm), readF G q shs c = some (cfs, ks, p) → segsIn D c → ∀ x ∈ ks, x.In D ∧ oneB x = true
  | [], q, c, cfs, ks, p, h, _ => by
    unfold readF at h
    split at h
    · simp only [Option.some.injEq, Prod.mk.injEq] at h
      obtain ⟨rfl, rfl, rfl⟩ := h
      exact fun x hx => by cases hx
    · cases h
  | s :: shs, q, c, cfs, ks, p, h, hin => by
    cases s with
    | sg =>
      simp only [readF] at h
      split at h
      · split at h
        · rename_i x c' _ _ r ks' p' hf hr
          simp only [Option.some.injEq, Prod.mk.injEq] at h
          obtain ⟨rfl, rfl, rfl⟩ := h
          exact readF_in shs _ _ _ _ _ hr fun y hy => hin y (by simp [hy])
        · cases h
      · cases h
    | ag k n =>
      simp only [readF] at h
      split at h
      · rename_i a c' hcut
        split at h
        · rename_i zs r ks' p' hz hr
          simp only [Option.some.injEq, Prod.mk.injEq] at h
          obtain ⟨rfl, rfl, rfl⟩ := h
          exact readF_in shs _ _ _ _ _ hr (cut_in c n a c' hcut hin)
        · cases h
      · cases h
    | sl k =>
      simp only [readF] at h
      split at h
      · split at h
        · rename_i x c' _ _ zs p1 r ks' p' hf hr
          simp only [Option.some.injEq, Prod.mk.injEq] at h
          obtain ⟨rfl, rfl, rfl⟩ := h
          exact readF_in shs _ _ _ _ _ hr fun y hy => hin y (by simp [hy])
        · cases h
      · cases h
    | sw k =>
      simp only [readF] at h
      split at h
      · split at h
        · rename_i x c' _ _ zs p1 r ks' p' hf hr
          simp only [Option.some.injEq, Prod.mk.injEq] at h
          obtain ⟨rfl, rfl, rfl⟩ := h
          exact readF_in shs _ _ _ _ _ hr fun y hy => hin y (by simp [hy])
        · cases h
      · cases h
    | pi k =>
      simp only [readF] at h
      split at h
      · split at h
        · split at h
          · rename_i r ks' p' hf hr
            simp only [Option.some.injEq, Prod.mk.injEq] at h
            obtain ⟨rfl, rfl, rfl⟩ := h
            exact readF_in shs _ _ _ _ _ hr fun y hy => hin y (by simp [hy])
          · cases h
        · cases h
      · cases h
    | kp =>
      simp only [readF] at h
      split at h
      · split at h
        · rename_i x c' _ _ r ks' p' hf hr
          simp only [Option.some.injEq, Prod.mk.injEq] at h
          obtain ⟨rfl, rfl, rfl⟩ := h
          intro y hy
          rcases List.mem_cons.1 hy with rfl | hy
          · exact ⟨hin y (by simp), hf⟩
          · exact readF_in shs _ _ _ _ _ hr (fun y hy => hin y (by simp [hy])) y hy
        · cases h
      · cases h
theorem canonF (κ : Nat → Value) (hG : HR ρ D N M G w) : ∀ (shs : List ShF) (c : List Seg) (cfs : List CF) (ks : List Seg) (p : Asm) (q n : Nat), readF G q shs c = some (cfs, ks, p) → p.holds → (∀ (j : Nat) (x : Seg), ks[j]? = some x → κ (q + j) = x.conc ρ) → ∃ ρ0 : Nat → Loc, ∀ ρc : Nat → Loc, (∀ i, n ≤ i → i < n + fN cfs → ρc i = ρ0 i) →
    segsVals ρc (fS κ cfs n) = segsVals ρ c ∧ segsIn (fun x => n ≤ x ∧ x < n + fN cfs) (fS κ cfs n) ∧ ∀ i b, look (fB cfs n) i = some b → CanR ρ G w ρc n (n + fN cfs) i b
  | [], c, cfs, ks, p, q, n, h, _, _ => by
    unfold readF at h
    split at h
    · simp only [Option.some.injEq, Prod.mk.injEq] at h
      obtain ⟨rfl, rfl, rfl⟩ := h
      exact ⟨fun _ => ⟨none, 0⟩, fun ρc _ => ⟨rfl, fun s hs => (by cases hs), fun i b hb => (by cases hb)⟩⟩
    · cases h
  | s :: shs, c, cfs, ks, p, q, n, h, hp, hκ => by
    have row : ∀ (k : IntKind) (zs : List Int) (r : List CF) (q1 : Asm) (x : Seg) (c' : List Seg) (mk : CF) (sg : Seg) (l : Loc), readF G q shs c' = some (r, ks, q1) → q1.holds → RowAt w l k zs → Src ρ G l → (∀ ρc : Nat → Loc, ρc n = l → sg.vals ρc = x.vals ρ) → sg.ids = [n] → c = x :: c' → cfs = mk :: r →
        fS κ (mk :: r) n = sg :: fS κ r (n + 1) → fB (mk :: r) n = (n, ⟨2, 0, [.arr k zs]⟩) :: fB r (n + 1) → fN (mk :: r) = fN r + 1 →
        ∃ ρ0 : Nat → Loc, ∀ ρc : Nat → Loc, (∀ i, n ≤ i → i < n + fN cfs → ρc i = ρ0 i) → segsVals ρc (fS κ cfs n) = segsVals ρ c ∧ segsIn (fun x => n ≤ x ∧ x < n + fN cfs) (fS κ cfs n) ∧ ∀ i b, look (fB cfs n) i = some b → CanR ρ G w ρc n (n + fN cfs) i b := by
      intro k zs r q1 x c' mk sg l hr hq hrow hsrc hv hids hc hcf e1 e2 e3
      subst hc hcf
      obtain ⟨ρ1, h1⟩ := canonF κ hG shs c' r ks q1 q (n + 1) hr hq hκ
      refine ⟨fun i => if i = n then l else ρ1 i, fun ρc hρ => ?_⟩
      rw [e3] at hρ
      have hn : ρc n = l := by rw [hρ n (Nat.le_refl _) (by omega)]; exact if_pos rfl
      obtain ⟨a1, a2, a3⟩ := h1 ρc fun i hi1 hi2 => by rw [hρ i (by omega) (by omega)]; exact if_neg (by omega)
      rw [e1, e2, e3]
      refine ⟨by rw [segsVals_cons, segsVals_cons, hv ρc hn, a1], fun s hs => ?_, fun i b hb => ?_⟩
      · rcases List.mem_cons.1 hs with rfl | hs
        · exact Seg.in_ids.2 fun i hi => by rw [hids] at hi; simp at hi; omega
        · exact (a2 s hs).mono fun x hx => by omega
      · rw [look_cons] at hb
        by_cases hi : n = i
        · rw [if_pos hi] at hb
          injection hb with hb
          subst hb hi
          refine ⟨Nat.le_refl _, by omega, rfl, fun s hs => (by simp at hs; subst hs; trivial), ?_⟩
          rw [hn, segsVals_one]
          exact ⟨hrow.read, hsrc⟩
        · rw [if_neg hi] at hb
          exact (a3 i b hb).mono (by omega) (by omega)
    have plain : ∀ (q' : Nat) (ks' : List Seg) (r : List CF) (q1 : Asm) (a c' : List Seg) (mk : CF) (sg : Seg), readF G q' shs c' = some (r, ks', q1) → q1.holds → (∀ (j : Nat) (x : Seg), ks'[j]? = some x → κ (q' + j) = x.conc ρ) → (∀ ρc : Nat → Loc, sg.vals ρc = segsVals ρ a) → sg.ids = [] → segsVals ρ c = segsVals ρ a ++ segsVals ρ c' → cfs = mk :: r →
        fS κ (mk :: r) n = sg :: fS κ r n → fB (mk :: r) n = fB r n → fN (mk :: r) = fN r →
        ∃ ρ0 : Nat → Loc, ∀ ρc : Nat → Loc, (∀ i, n ≤ i → i < n + fN cfs → ρc i = ρ0 i) → segsVals ρc (fS κ cfs n) = segsVals ρ c ∧ segsIn (fun x => n ≤ x ∧ x < n + fN cfs) (fS κ cfs n) ∧ ∀ i b, look (fB cfs n) i = some b → CanR ρ G w ρc n (n + fN cfs) i b := by
      intro q' ks' r q1 a c' mk sg hr hq hk hv hids hc hcf e1 e2 e3
      subst hcf
      obtain ⟨ρ1, h1⟩ := canonF κ hG shs c' r ks' q1 q' n hr hq hk
      refine ⟨ρ1, fun ρc hρ => ?_⟩
      rw [e3] at hρ
      obtain ⟨a1, a2, a3⟩ := h1 ρc hρ
      rw [e1, e2, e3]
      refine ⟨by rw [segsVals_cons, hv ρc, a1, hc], fun s hs => ?_, a3⟩
      rcases List.mem_cons.1 hs with rfl | hs
      · exact Seg.in_ids.2 fun i hi => by rw [hids] at hi; cases hi
      · exact a2 s hs
    cases s with
    | sg =>
      simp only [readF] at h
      split at h
      · split at h
        · rename_i x c' _ _ r ks' p' hf hr
          simp only [Option.some.injEq, Prod.mk.injEq] at h
          obtain ⟨rfl, rfl, rfl⟩ := h
          rw [Bool.and_eq_true] at hf
          exact plain q _ r p' [x] c' (.sg x) x hr hp hκ (fun ρc => by rw [segsVals_one]; exact seg_free_vals hf.1 _ _) (freeB_ids hf.1) (by rw [segsVals_cons, segsVals_one]) rfl rfl rfl rfl
        · cases h
      · cases h
    | ag k m =>
      simp only [readF] at h
      split at h
      · rename_i a c' hcut
        split at h
        · rename_i zs r ks' p' hz hr
          simp only [Option.some.injEq, Prod.mk.injEq] at h
          obtain ⟨rfl, rfl, rfl⟩ := h
          exact plain q _ r p' a c' (.ag k zs) (.arr k zs) hr hp hκ (fun ρc => by rw [intsO_spec ρ hz]; rfl) rfl (cut_spec ρ _ _ _ _ hcut).1.symm rfl rfl rfl rfl
        · cases h
      · cases h
    | sl k =>
      simp only [readF] at h
      split at h
      · split at h
        · rename_i x c' _ _ zs p1 r ks' p' hz hr
          simp only [Option.some.injEq, Prod.mk.injEq] at h
          obtain ⟨rfl, rfl, rfl⟩ := h
          obtain ⟨l, h1, hs1, h2⟩ := readSl_spec hG hz hp.1
          exact row k zs r p' x c' (.sl k zs) (.r n 0 zs.length 0) l hr hp.2 h1 hs1 (fun ρc hn => (h2 ρc n hn).1) rfl rfl rfl rfl rfl rfl
        · cases h
      · cases h
    | sw k =>
      simp only [readF] at h
      split at h
      · split at h
        · rename_i x c' _ _ zs p1 r ks' p' hz hr
          simp only [Option.some.injEq, Prod.mk.injEq] at h
          obtain ⟨rfl, rfl, rfl⟩ := h
          obtain ⟨l, h1, hs1, h2⟩ := readSl_spec hG hz hp.1
          exact row k zs r p' x c' (.sl k zs) (.r n 0 zs.length 0) l hr hp.2 h1 hs1 (fun ρc hn => (h2 ρc n hn).1) rfl rfl rfl rfl rfl rfl
        · cases h
      · cases h
    | kp =>
      simp only [readF] at h
      split at h
      · split at h
        · rename_i x c' _ _ r ks' p' hf hr
          simp only [Option.some.injEq, Prod.mk.injEq] at h
          obtain ⟨rfl, rfl, rfl⟩ := h
          have h0 := hκ 0 x rfl
          rw [Nat.add_zero] at h0
          exact plain (q + 1) ks' r p' [x] c' (.kp q) (.v (κ q)) hr hp (fun j y hj => by rw [show q + 1 + j = q + (j + 1) by omega]; exact hκ (j + 1) y (by simpa using hj)) (fun ρc => by rw [segsVals_one, oneB_vals hf]; simp only [Seg.vals, Seg.conc, h0]) rfl (by rw [segsVals_cons, segsVals_one]) rfl rfl rfl rfl
        · cases h
      · cases h
    | pi k =>
      simp only [readF] at h
      split at h
      · rename_i id c'
        split at h
        · rename_i b hb
          split at h
          · rename_i zs r ks' p' hz hr
            simp only [Option.some.injEq, Prod.mk.injEq] at h
            obtain ⟨rfl, rfl, rfl⟩ := h
            refine row k zs r p' (.p id 0) c' (.pi k zs) (.p n 0) ⟨(ρ id).a, zs.length⟩ hr hp ⟨Nat.le_refl _, ?_, fun x hx => hG.lt id b x hb hx⟩ (fun x hx => ⟨id, b, x, hb, hx, rfl⟩) (fun ρc hn => by simp only [Seg.vals, Seg.conc, hn]) rfl rfl rfl rfl rfl rfl
            have hv := intsO_spec ρ hz
            cases hzz : zs with
            | nil => exact .inl rfl
            | cons y l =>
              right
              have hok := (hG.blk id b hb).2.2
              obtain ⟨x, hx, _⟩ := hok.cells (j := 0) (u := .int k y) (by rw [hv, hzz]; rfl)
              refine ⟨x, hx, fun j u hj => ?_⟩
              rw [← hzz, ← hv] at hj
              obtain ⟨x', hx', hc'⟩ := hok.cells hj
              rw [hx] at hx'
              injection hx' with hx'
              subst hx'
              exact hc'
          · cases h
        · cases h
      · cases h
end
end Go.Proofs.YtpefomdegbmecaaDoor.Am
/- The abstract machine: contracts by what the arguments read as: the calls. Conditions: none. -/
namespace Go.Proofs.YtpefomdegbmecaaDoor.Am
set_option linter.unusedVariables false
set_option linter.unusedSimpArgs false
open Go Go.RowKit
set_option linter.unusedSectionVars false
section
variable {P : Program} {T : List (Nat × Ty)} {ρ : Nat → Loc} {D : Nat → Prop} {N : Nat} {M : List Nat} {G : Nat → Option Blk} {base : Nat} {w : World}
variable [GT]

/-- A block of a contract's own memory that may change. -/
def CanM (ρ : Nat → Loc) (G : Nat → Option Blk) (ρc : Nat → Loc) (ms : List Nat) (m lo hi i : Nat) (b : Blk) : Prop :=
  ∃ (j id : Nat) (b0 : Blk), i = m + j ∧ ms[j]? = some id ∧ G id = some b0 ∧ b0.k = 0 ∧ b.k = 0 ∧ b.ty = b0.ty ∧ segsVals ρc b.c = segsVals ρ b0.c ∧ segsIn (fun x => lo ≤ x ∧ x < hi) b.c
theorem CanM.mono {ρc : Nat → Loc} {ms ms' : List Nat} {m m' lo hi lo' hi' i : Nat} {b : Blk} (h : CanM ρ G ρc ms m lo hi i b) (h1 : lo' ≤ lo) (h2 : hi ≤ hi') (h3 : ∀ (j id : Nat), ms[j]? = some id → ∃ j' : Nat, m + j = m' + j' ∧ ms'[j']? = some id) : CanM ρ G ρc ms' m' lo' hi' i b := by
  obtain ⟨j, id, b0, rfl, hj, a1, a2, a3, a4, a5, a6⟩ := h
  obtain ⟨j', e, hj'⟩ := h3 j id hj
  exact ⟨j', id, b0, e, hj', a1, a2, a3, a4, a5, a6.mono fun x hx => by omega⟩
theorem bR_pos_le (n a b : Nat) : n + a ≤ n + (a + b) := by omega

def CanOut (κ : Nat → Value) (ρ : Nat → Loc) (R G : Nat → Option Blk) (w : World) (svs : List SV) (cbs : List CB) (ms : List Nat) (ln m n : Nat) : Prop :=
  cbs.length = ln ∧ ms.length = bM cbs ∧ (bT cbs).length = bM cbs ∧ (∀ (j id : Nat), ms[j]? = some id → ∃ b0, G id = some b0 ∧ b0.k = 0) ∧
    ∃ ρ0 : Nat → Loc, ∀ ρc : Nat → Loc, (∀ i, n ≤ i → i < n + bR cbs → ρc i = ρ0 i) → (∀ (j id : Nat), ms[j]? = some id → ρc (m + j) = ρ id) →
      (bA cbs m n).map (SV.conc ρc) = svs.map (SV.conc ρ) ∧ (∀ s ∈ bA cbs m n, s.In fun x => x < n + bR cbs) ∧
      (∀ i b, look (bH κ cbs m n) i = some b → CanR ρ R w ρc n (n + bR cbs) i b ∨ CanM ρ G ρc ms m n (n + bR cbs) i b) ∧
      (∀ (j : Nat) (ty : TypeId), (bT cbs)[j]? = some ty → ∃ b, look (bH κ cbs m n) (m + j) = some b ∧ b.ty = ty)
theorem canonB (κ : Nat → Value) {R : Nat → Option Blk} (hG : HR ρ D N M R w) : ∀ (shs : List ShB) (svs : List SV) (cbs : List CB) (ms : List Nat) (ks : List Seg) (p : Asm) (q m n : Nat), m + bM cbs ≤ n → readBs R G q shs svs = some (cbs, ms, ks, p) → p.holds → (∀ (j : Nat) (x : Seg), ks[j]? = some x → κ (q + j) = x.conc ρ) → CanOut κ ρ R G w svs cbs ms shs.length m n
  | [], [], cbs, ms, ks, p, q, m, n, _, h, _, _ => by
    simp only [readBs, Option.some.injEq, Prod.mk.injEq] at h
    obtain ⟨rfl, rfl, rfl, rfl⟩ := h
    exact ⟨rfl, rfl, rfl, fun j id h => (by simp at h), fun _ => ⟨none, 0⟩, fun ρc _ _ => ⟨rfl, fun s hs => (by cases hs), fun i b hb => (by cases hb), fun j ty h => (by simp [bT] at h)⟩⟩
  | [], _ :: _, _, _, _, _, _, _, _, _, h, _, _ => by cases h
  | _ :: _, [], _, _, _, _, _, _, _, _, h, _, _ => by cases h
  | s :: shs, x :: svs, cbs, ms, ks, p, q, m, n, hmn, h, hp, hκ => by
    unfold readBs at h
    split at h
    rotate_left
    · cases h
    rename_i c i k1 p1 hc
    split at h
    rotate_left
    · cases h
    rename_i cs is k2 q2 hcs
    simp only [Option.some.injEq, Prod.mk.injEq] at h
    obtain ⟨rfl, rfl, rfl, rfl⟩ := h
    have hp1 := hp.1
    have hκ1 : ∀ (j : Nat) (x : Seg), k1[j]? = some x → κ (q + j) = x.conc ρ := fun j x hj => hκ j x (by rw [List.getElem?_append_left (List.getElem?_eq_some_iff.1 hj).1]; exact hj)
    have hκ2 : ∀ (j : Nat) (x : Seg), k2[j]? = some x → κ (q + k1.length + j) = x.conc ρ := fun j x hj => by
      rw [Nat.add_assoc]
      exact hκ (k1.length + j) x (by rw [List.getElem?_append_right (by omega), Nat.add_sub_cancel_left]; exact hj)
    -- nothing changes
    have keep : ∀ (rc : Nat) (hd : List (Nat × Blk)) (y : SV) (ρ1 : Nat → Loc), i = [] → bM (c :: cs) = bM cs → bT (c :: cs) = bT cs → bR (c :: cs) = rc + bR cs → (bA (c :: cs) m n = y :: bA cs m (n + rc)) → (bH κ (c :: cs) m n = hd ++ bH κ cs m (n + rc)) →
        (∀ ρc : Nat → Loc, (∀ i, n ≤ i → i < n + rc → ρc i = ρ1 i) → y.conc ρc = x.conc ρ ∧ y.In (fun x => x < n + rc) ∧ ∀ i b, look hd i = some b → CanR ρ R w ρc n (n + rc) i b) →
        CanOut κ ρ R G w (x :: svs) (c :: cs) (i ++ is) (s :: shs).length m n := by
      intro rc hd y ρ1 hi e1 e2 e3 e4 e5 hx
      subst hi
      rw [e1] at hmn
      obtain ⟨a1, a2, a3, a4, ρ2, h2⟩ := canonB κ hG shs svs cs is k2 q2 (q + k1.length) m (n + rc) (by omega) hcs hp.2 hκ2
      unfold CanOut
      rw [e1, e2, e3, e4, e5]
      refine ⟨by simp [a1], a2, a3, a4, fun j => if j < n + rc then ρ1 j else ρ2 j, fun ρc hρ hm => ?_⟩
      obtain ⟨b1, b2, b3⟩ := hx ρc fun j h1 h2 => by rw [hρ j h1 (by omega)]; exact if_pos h2
      obtain ⟨c1, c2, c3, c4⟩ := h2 ρc (fun j h1 h2 => by rw [hρ j (by omega) (by omega)]; exact if_neg (by omega)) hm
      refine ⟨by rw [List.map_cons, List.map_cons, b1, c1], fun s hs => ?_, fun j b hb => ?_, fun j ty hj => ?_⟩
      · rcases List.mem_cons.1 hs with rfl | hs
        · exact b2.mono fun x hx => by omega
        · exact (c2 s hs).mono fun x hx => by omega
      · rw [look_app] at hb
        cases hl : look hd j with
        | some b' =>
          rw [hl] at hb
          simp only [Option.some_or, Option.some.injEq] at hb
          subst hb
          exact .inl ((b3 j b' hl).mono (Nat.le_refl _) (by omega))
        | none =>
          rw [hl, Option.none_or] at hb
          rcases c3 j b hb with h | h
          · exact .inl (h.mono (by omega) (by omega))
          · exact .inr (h.mono (by omega) (by omega) fun j id h => ⟨j, rfl, h⟩)
      · obtain ⟨b, hb, ht⟩ := c4 j ty hj
        refine ⟨b, ?_, ht⟩
        rw [look_app]
        cases hl : look hd (m + j) with
        | some b' =>
          have hjl : j < bM cs := by
            rw [← a3]
            exact (List.getElem?_eq_some_iff.1 hj).1
          have := (b3 _ b' hl).1
          omega
        | none => rw [Option.none_or]; exact hb
    have pl : ∀ (y : SV), i = [] → bM (c :: cs) = bM cs → bT (c :: cs) = bT cs → bR (c :: cs) = bR cs → (bA (c :: cs) m n = y :: bA cs m n) → (bH κ (c :: cs) m n = bH κ cs m n) → (∀ ρc : Nat → Loc, y.conc ρc = x.conc ρ) → y.In (fun _ => False) → CanOut κ ρ R G w (x :: svs) (c :: cs) (i ++ is) (s :: shs).length m n := fun y hi e1 e2 e3 e4 e5 hx hy => keep 0 [] y (fun _ => ⟨none, 0⟩) hi e1 e2 (by rw [e3, Nat.zero_add]) e4 e5 fun ρc _ => ⟨hx ρc, hy.mono fun _ h => h.elim, fun i b hb => by cases hb⟩
    have sl : ∀ (wh : Bool) (k : IntKind) (zs : List Int) (g : Seg), x = .av (.one g) → readSl wh R k g = some (zs, p1) → c = .sl k zs → i = [] → CanOut κ ρ R G w (x :: svs) (c :: cs) (i ++ is) (s :: shs).length m n := fun wh k zs g hxg hr hcc hi => by
      subst hcc hxg
      obtain ⟨l, h1, hs1, h2⟩ := readSl_spec hG hr hp1
      refine keep 1 [(n, ⟨2, 0, [.arr k zs]⟩)] (.av (.one (.r n 0 zs.length 0))) (fun _ => l) hi rfl rfl rfl rfl rfl fun ρc hρ => ?_
      have hn : ρc n = l := hρ n (Nat.le_refl _) (by omega)
      refine ⟨(h2 ρc n hn).2, fun s hs => ?_, fun j b hb => ?_⟩
      · simp only [AV.segs, List.mem_cons, List.not_mem_nil, or_false] at hs
        subst hs
        exact Nat.lt_succ_self _
      · rw [look_cons] at hb
        by_cases hj : n = j
        · rw [if_pos hj] at hb
          injection hb with hb
          subst hb hj
          refine ⟨Nat.le_refl _, by omega, rfl, fun s hs => (by simp at hs; subst hs; trivial), ?_⟩
          rw [hn, segsVals_one]
          exact ⟨h1.read, hs1⟩
        · rw [if_neg hj] at hb
          cases hb
    -- a struct that is read
    have rdr : ∀ (id : Nat) (b : Blk) (fs : List ShF) (r : List CF) (y : Nat → SV) (cap : Nat), i = [] → R id = some b → readF R q fs b.c = some (r, k1, p1) → bM (c :: cs) = bM cs → bT (c :: cs) = bT cs → bR (c :: cs) = 1 + fN r + bR cs → (bA (c :: cs) m n = y n :: bA cs m (n + (1 + fN r))) → (bH κ (c :: cs) m n = ((n, (⟨2, 0, fS κ r (n + 1)⟩ : Blk)) :: fB r (n + 1)) ++ bH κ cs m (n + (1 + fN r))) →
        (∀ ρc : Nat → Loc, ρc n = ⟨(ρ id).a, widths b.c⟩ → (y n).conc ρc = x.conc ρ) → (y n).In (fun x => x = n) → CanOut κ ρ R G w (x :: svs) (c :: cs) (i ++ is) (s :: shs).length m n := fun id b fs r y cap hi hb hr e1 e2 e3 e4 e5 hy hyi => by
      obtain ⟨ρ1, h1⟩ := canonF κ hG fs b.c r k1 p1 q (n + 1) hr hp1 hκ1
      refine keep (1 + fN r) _ (y n) (fun j => if j = n then ⟨(ρ id).a, widths b.c⟩ else ρ1 j) hi e1 e2 e3 e4 e5 fun ρc hρ => ?_
      have hn : ρc n = ⟨(ρ id).a, widths b.c⟩ := by rw [hρ n (Nat.le_refl _) (by omega)]; exact if_pos rfl
      obtain ⟨a1, a2, a3⟩ := h1 ρc fun j h1 h2 => by rw [hρ j (by omega) (by omega)]; exact if_neg (by omega)
      refine ⟨hy ρc hn, hyi.mono fun x hx => by omega, fun j b' hb' => ?_⟩
      rw [look_cons] at hb'
      by_cases hj : n = j
      · rw [if_pos hj] at hb'
        injection hb' with hb'
        subst hb' hj
        refine ⟨Nat.le_refl _, by omega, rfl, a2.mono fun x hx => by omega, ?_⟩
        show ReadAt w _ (segsVals ρc (fS κ r (n + 1))) ∧ _
        rw [hn, a1]
        refine ⟨⟨by rw [segsVals_len]; exact Nat.le_refl _, ?_, fun x hx => hG.lt id b x hb hx⟩, fun x hx => ⟨id, b, x, hb, hx, rfl⟩⟩
        cases hs : segsVals ρ b.c with
        | nil => exact .inl rfl
        | cons y l =>
          right
          have hok := (hG.blk id b hb).2.2
          obtain ⟨x, hx, _⟩ := hok.cells (j := 0) (u := y) (by rw [hs]; rfl)
          refine ⟨x, hx, fun j u hj => ?_⟩
          rw [← hs] at hj
          obtain ⟨x', hx', hc'⟩ := hok.cells hj
          rw [hx] at hx'
          injection hx' with hx'
          subst hx'
          exact hc'
      · rw [if_neg hj] at hb'
        exact (a3 j b' hb').mono (by omega) (by omega)
    unfold readB at hc
    split at hc
    · rename_i a
      split at hc
      · rename_i hf
        simp only [Option.some.injEq, Prod.mk.injEq] at hc
        obtain ⟨rfl, rfl, rfl, rfl⟩ := hc
        rw [Bool.and_eq_true] at hf
        have hin : (SV.av a).In fun _ => False := fun s hs => free_in (List.all_eq_true.1 hf.1 s hs) _
        exact pl (.av a) rfl rfl rfl rfl rfl rfl (fun ρc => SV.conc_congr (D := fun _ => False) (fun _ h => h.elim) hin) hin
      · cases hc
    · rename_i k a
      split at hc
      · rename_i zs hz hagg
        simp only [Option.some.injEq, Prod.mk.injEq] at hc
        obtain ⟨rfl, rfl, rfl, rfl⟩ := hc
        refine pl (.av (.one (.arr k zs))) rfl rfl rfl rfl rfl rfl (fun ρc => ?_) (fun s hs => by simp [AV.segs] at hs; subst hs; trivial)
        rw [conc_av, conc_av, aggB_conc ρ hagg, intsO_spec ρ hz]
        rfl
      · cases hc
    · rename_i k g
      split at hc
      · rename_i zs p' hr
        simp only [Option.some.injEq, Prod.mk.injEq] at hc
        obtain ⟨rfl, rfl, rfl, rfl⟩ := hc
        exact sl false k zs g rfl hr rfl rfl
      · cases hc
    · rename_i k g
      split at hc
      · rename_i zs p' hr
        simp only [Option.some.injEq, Prod.mk.injEq] at hc
        obtain ⟨rfl, rfl, rfl, rfl⟩ := hc
        exact sl true k zs g rfl hr rfl rfl
      · cases hc
    · rename_i fs id len cap
      split at hc
      · rename_i b hb
        split at hc
        · rename_i r ks' p' hr
          split at hc
          · rename_i hlen
            have hlen := Nat.eq_of_beq_eq_true hlen
            simp only [Option.some.injEq, Prod.mk.injEq] at hc
            obtain ⟨rfl, rfl, rfl, rfl⟩ := hc
            refine rdr id b fs r (fun n => .av (.one (.s n 0 r.length cap))) cap rfl hb hr rfl rfl rfl rfl rfl (fun ρc hn => ?_) (fun s hs => by simp [AV.segs] at hs; subst hs; rfl)
            simp only [SV.conc, AV.conc, Seg.conc, hn, hlen]
          · cases hc
        · cases hc
      · cases hc
    · rename_i ty fs id
      split at hc
      · rename_i b hb
        split at hc
        · rename_i r ks' p' hk hr
          simp only [Option.some.injEq, Prod.mk.injEq] at hc
          obtain ⟨rfl, rfl, rfl, rfl⟩ := hc
          rw [Bool.and_eq_true] at hk
          have hk0 := Nat.eq_of_beq_eq_true hk.1
          have hty := Nat.eq_of_beq_eq_true hk.2
          have hmn' : m + (bM cs + 1) ≤ n := hmn
          obtain ⟨a1, a2, a3, a4, ρ2, h2⟩ := canonB κ hG shs svs cs is k2 q2 (q + ks'.length) (m + 1) (n + fN r) (by omega) hcs hp.2 hκ2
          obtain ⟨ρ1, h1⟩ := canonF κ hG fs b.c r ks' p' q n hr hp1 hκ1
          refine ⟨by simp [a1], by simp [bM, a2, Nat.add_comm], by simp [bM, bT, a3], fun j id' hj => ?_, fun j => if j < n + fN r then ρ1 j else ρ2 j, fun ρc hρ hm => ?_⟩
          · cases j with
            | zero =>
              simp only [List.cons_append, List.getElem?_cons_zero, Option.some.injEq] at hj
              subst hj
              exact ⟨b, hb, hk0⟩
            | succ j => exact a4 j id' (by simpa using hj)
          · have eR : bR (.mu ty r :: cs) = fN r + bR cs := rfl
            rw [eR] at hρ ⊢
            obtain ⟨b1, b2, b3⟩ := h1 ρc fun j h1 h2 => by rw [hρ j h1 (by omega)]; exact if_pos h2
            obtain ⟨c1, c2, c3, c4⟩ := h2 ρc (fun j h1 h2 => by rw [hρ j (by omega) (by omega)]; exact if_neg (by omega)) fun j id' hj => by
              have := hm (j + 1) id' (by simpa using hj)
              rw [show m + 1 + j = m + (j + 1) by omega]; exact this
            have hm0 : ρc m = ρ id := hm 0 id rfl
            have eH : bH κ (.mu ty r :: cs) m n = ((m, (⟨0, ty, fS κ r n⟩ : Blk)) :: fB r n) ++ bH κ cs (m + 1) (n + fN r) := rfl
            refine ⟨?_, fun s hs => ?_, fun j b' hb' => ?_, fun j ty' hj => ?_⟩
            · show SV.conc ρc (.av (.one (.p m 0))) :: (bA cs (m + 1) (n + fN r)).map (SV.conc ρc) = _
              rw [c1, List.map_cons]
              simp only [SV.conc, AV.conc, Seg.conc, hm0]
            · rcases List.mem_cons.1 hs with rfl | hs
              · intro s hs
                simp only [AV.segs, List.mem_cons, List.not_mem_nil, or_false] at hs
                subst hs
                show m < n + (fN r + bR cs)
                omega
              · exact (c2 s hs).mono fun x hx => by omega
            · rw [eH, look_app, look_cons] at hb'
              by_cases hj : m = j
              · rw [if_pos hj] at hb'
                simp only [Option.some_or, Option.some.injEq] at hb'
                subst hb' hj
                exact .inr ⟨0, id, b, rfl, rfl, hb, hk0, rfl, hty.symm, b1, b2.mono fun x hx => by omega⟩
              · rw [if_neg hj] at hb'
                cases hl : look (fB r n) j with
                | some b2' =>
                  rw [hl] at hb'
                  simp only [Option.some_or, Option.some.injEq] at hb'
                  subst hb'
                  exact .inl ((b3 j _ hl).mono (Nat.le_refl _) (by omega))
                | none =>
                  rw [hl, Option.none_or] at hb'
                  rcases c3 j b' hb' with h | h
                  · exact .inl (h.mono (by omega) (by omega))
                  · exact .inr (h.mono (by omega) (by omega) fun j id h => ⟨j + 1, by omega, by simpa using h⟩)
            · rw [eH, look_app, look_cons]
              cases j with
              | zero =>
                simp only [bT, List.getElem?_cons_zero, Option.some.injEq] at hj
                subst hj
                exact ⟨_, by rw [Nat.add_zero, if_pos rfl]; rfl, rfl⟩
              | succ j =>
                obtain ⟨b', hb', ht⟩ := c4 j ty' (by simpa [bT] using hj)
                refine ⟨b', ?_, ht⟩
                rw [if_neg (by omega)]
                have hjl : j < bM cs := by
                  rw [← a3]
                  have hj' : (bT cs)[j]? = some ty' := by simpa [bT] using hj
                  exact (List.getElem?_eq_some_iff.1 hj').1
                cases hl : look (fB r n) (m + (j + 1)) with
                | some b2' =>
                  have := (b3 _ _ hl).1
                  omega
                | none => rw [Option.none_or, show m + (j + 1) = m + 1 + j by omega]; exact hb'
        · cases hc
      · cases hc
    · rename_i fs id
      split at hc
      · rename_i b hb
        split at hc
        · rename_i r ks' p' hr
          simp only [Option.some.injEq, Prod.mk.injEq] at hc
          obtain ⟨rfl, rfl, rfl, rfl⟩ := hc
          refine rdr id b fs r (fun n => .av (.one (.p n 0))) 0 rfl hb hr rfl rfl rfl rfl rfl (fun ρc hn => ?_) (fun s hs => by simp [AV.segs] at hs; subst hs; rfl)
          simp only [SV.conc, AV.conc, Seg.conc, hn]
        · cases hc
      · cases hc
    · rename_i id len cap
      split at hc
      · rename_i b hb
        split at hc
        · rename_i vs hvs
          simp only [Option.some.injEq, Prod.mk.injEq] at hc
          obtain ⟨rfl, rfl, rfl, rfl⟩ := hc
          have hlen : len = vs.length := hp1
          have hbv : segsVals ρ b.c = vs := by rw [hvs, segsVals_one]; rfl
          refine keep 1 [(n, ⟨2, 0, [.vs vs]⟩)] (.av (.one (.s n 0 vs.length cap))) (fun _ => ⟨(ρ id).a, widths b.c⟩) rfl rfl rfl rfl rfl rfl fun ρc hρ => ?_
          have hn : ρc n = ⟨(ρ id).a, widths b.c⟩ := hρ n (Nat.le_refl _) (by omega)
          refine ⟨by simp only [SV.conc, AV.conc, Seg.conc, hn, hlen], fun s hs => ?_, fun j b' hb' => ?_⟩
          · simp only [AV.segs, List.mem_cons, List.not_mem_nil, or_false] at hs
            subst hs
            exact Nat.lt_succ_self _
          · rw [look_cons] at hb'
            by_cases hj : n = j
            · rw [if_pos hj] at hb'
              injection hb' with hb'
              subst hb' hj
              refine ⟨Nat.le_refl _, by omega, rfl, fun s hs => (by simp at hs; subst hs; trivial), ?_⟩
              have e2 : segsVals ρc [.vs vs] = vs := by rw [segsVals_one]; rfl
              show ReadAt w _ (segsVals ρc [.vs vs]) ∧ _
              rw [hn, e2]
              refine ⟨⟨?_, ?_, fun x hx => hG.lt id b x hb hx⟩, fun x hx => ⟨id, b, x, hb, hx, rfl⟩⟩
              · have := segsVals_len ρ b.c
                rw [hbv] at this
                exact Nat.le_of_eq this
              · cases hs : vs with
                | nil => exact .inl rfl
                | cons y l =>
                  right
                  have hok := (hG.blk id b hb).2.2
                  obtain ⟨x, hx, _⟩ := hok.cells (j := 0) (u := y) (by rw [hbv, hs]; rfl)
                  refine ⟨x, hx, fun j u hj => ?_⟩
                  rw [← hs, ← hbv] at hj
                  obtain ⟨x', hx', hc'⟩ := hok.cells hj
                  rw [hx] at hx'
                  injection hx' with hx'
                  subst hx'
                  exact hc'
            · rw [if_neg hj] at hb'
              cases hb'
        · cases hc
      · cases hc
    · cases hc
end
end Go.Proofs.YtpefomdegbmecaaDoor.Am
/- The abstract machine: contracts by what the arguments read as: out of runs. Conditions: none. -/
namespace Go.Proofs.YtpefomdegbmecaaDoor.Am
set_option linter.unusedVariables false
set_option linter.unusedSimpArgs false
open Go Go.RowKit
set_option linter.unusedSectionVars false

/-- What a contract tells: what it needs, its value, its new blocks (named 0, 1, ..), and what the blocks that may change become. -/
inductive CU where
  | s (s : Seg)
  | k (i : Nat)
def CU.can (κ : Nat → Value) : CU → Seg
  | .s x => x
  | .k i => .v (κ i)
def CU.act (base : Nat) (ks : List Seg) : CU → Seg
  | .s x => x.ren fun e => base + e
  | .k i => ks.getD i (.v undef)
structure BR where
  pre : Prop := True
  val : SV
  new : List Blk := []
  upd : List (List CU) := []
def updZ (f : CU → Seg) : List Nat → List TypeId → List (List CU) → List (Nat × Option Blk)
  | id :: ms, ty :: ts, c :: cs => (id, some ⟨0, ty, c.map f⟩) :: updZ f ms ts cs
  | _, _, _ => []
def entB (sh : List ShB) (F : List CB → Option BR) : Ent := fun args G base => match readBs (hide G (msOf sh args)) G 0 sh args with
  | some (cbs, ms, ks, p) => match nodupB ms, F cbs with
    | true, some r => some { val := r.val.ren (fun e => base + e), new := r.new.map fun b => ⟨b.k, b.ty, renL (fun e => base + e) b.c⟩, upd := updZ (CU.act base ks) ms (bT cbs) r.upd, asm := p.and (.say r.pre) }
    | _, _ => none
  | none => none
/-- The first that fits. -/
def eOr (a b : Ent) : Ent := fun args G base => match a args G base with
  | some r => some r
  | none => b args G base
def updE (hp : List (Nat × Blk)) (τ : Nat → Nat) (es : List Nat) : Nat → List TypeId → Option (List (List Seg))
  | _, [] => some []
  | i, ty :: l => match look hp i with
    | some b => match Nat.beq b.k 0 && (Nat.beq b.ty ty && b.c.all (expB 0 es fun _ => false)), updE hp τ es (i + 1) l with
      | true, some r => some (renL τ b.c :: r)
      | _, _ => none
    | none => none
def endK (k : Nat) (st : St) (v : SV) (es : List Nat) : Bool := v.allB (expB 0 es fun _ => false) && (es.all (esB k st.hp (expB 0 es fun _ => false)) && nodupB es)

section
variable {P : Program} {T : List (Nat × Ty)} {O : List (Nat × Ent)} {ρ : Nat → Loc} {D : Nat → Prop} {N : Nat} {M : List Nat} {G : Nat → Option Blk} {base : Nat} {w : World}
variable [GT]

theorem eOr_ok {f : FuncId} {a b : Ent} (ha : EntOK P f a) (hb : EntOK P f b) : EntOK P f (eOr a b) := by
  refine ⟨ha.1, fun args G base res hr hh => ?_⟩
  unfold eOr at hr
  split at hr
  · rename_i r h
    injection hr with hr
    subst hr
    exact ha.2 args G base _ h hh
  · exact hb.2 args G base res hr hh

/-! ### Runs from a function's beginning, the first m0 names kept -/
def FromK (P : Program) (m0 : Nat) (fn : Func) (avs : List SV) (hp : List (Nat × Blk)) (nx : Nat) (gl : List (Nat × Nat)) (todo : List AI) (s : St) : Prop :=
  ∃ c, fn.body = some c ∧ Reaches P m0 [.code c] (start avs fn.ntmps hp nx gl) todo s
theorem FromK.run (hT : TOK P T) (hO : OOK P O) (hmx : P.follows .mixedOrders = true) {H : Nat → Nat → Hint} {LH : List (Nat × Nat)} {m0 m : Nat} {es ks : List Nat} {fn : Func} {avs : List SV} {hp : List (Nat × Blk)} {nx : Nat} {gl : List (Nat × Nat)} {todo' : List AI} {s' : St} {ps : List Prop} (h : runF T O H LH m es ks fn avs hp nx gl = some (todo', s', ps)) (hps : AllP ps) (hm : Nat.ble m0 m = true := by rfl) : FromK P m0 fn avs hp nx gl todo' s' := by
  unfold runF at h
  split at h
  · rename_i c hc
    exact ⟨c, hc, reach_run hT hO hmx h hps hm⟩
  · cases h
theorem FromK.trans {m0 : Nat} {fn : Func} {avs : List SV} {hp : List (Nat × Blk)} {nx : Nat} {gl : List (Nat × Nat)} {todo todo' : List AI} {s s' : St} (h : FromK P m0 fn avs hp nx gl todo s) (k : Reaches P m0 todo s todo' s') : FromK P m0 fn avs hp nx gl todo' s' :=
  let ⟨c, hc, hr⟩ := h
  ⟨c, hc, hr.trans k⟩
theorem From.k {fn : Func} {avs : List SV} {hp : List (Nat × Blk)} {nx : Nat} {gl : List (Nat × Nat)} {todo : List AI} {s : St} (h : From P fn avs hp nx gl todo s) : FromK P 0 fn avs hp nx gl todo s := h
theorem Reaches.roundsK {m0 : Nat} {fn : Func} {r : Nat} {ns : List Nat} {s u : St} {c : List AI} (n : Nat) (h : Reaches P m0 (hdAt fn r ns n) s c u) : Reaches P m0 (toAt fn r ns) s c u := Reaches.loop n h
theorem Reaches.oneK {m0 : Nat} {fn : Func} {r : Nat} {ns : List Nat} {n : Nat} {s u : St} {c : List AI} (h : Reaches P m0 (inAt fn r ns n) s c u) : Reaches P m0 (hdAt fn r ns (n + 1)) s c u := Reaches.round h
/-- A run from somewhere. -/
theorem Reaches.runK (hT : TOK P T) (hO : OOK P O) (hmx : P.follows .mixedOrders = true) {H : Nat → Nat → Hint} {LH : List (Nat × Nat)} {fuel m0 m : Nat} {es ks : List Nat} {todo todo' : List AI} {s s' : St} {ps : List Prop} (h : runN T O H LH fuel m es ks todo s = some (todo', s', ps)) (hps : AllP ps) (hm : Nat.ble m0 m = true := by rfl) : Reaches P m0 todo s todo' s' := reach_run hT hO hmx h hps hm

/-- A state by other names. -/
def normO (m : Nat) (es ks : List Nat) (s : St) : Option St := match normB m es ks s with
  | true => some (normSt m es ks s)
  | false => none
theorem Reaches.norm {m0 m : Nat} {es ks : List Nat} {todo : List AI} {s s' : St} (h : normO m es ks s = some s') (hm : Nat.ble m0 m = true := by rfl) : Reaches P m0 todo s todo s' := by
  unfold normO at h
  split at h
  · rename_i hn
    injection h with h
    subst h
    exact fun B N M w0 hl hR => norm_runs hn (fun id x hx => Nat.lt_of_lt_of_le (hl id x hx) (Nat.le_of_ble_eq_true hm)) hR
  · cases h
/-- A nil slice is an empty row, and the state by other names. -/
theorem Reaches.adoptK {m0 m : Nat} {es ks : List Nat} {todo : List AI} {s s' : St} {t : Nat} (e : TypeId) (k : IntKind) (h : isNilAt s t = true) (hs : normO m es ks (adoptSt e k t s) = some s') (hm : Nat.ble m0 m = true := by rfl) : Reaches P m0 todo s todo s' :=
  (Reaches.adopt e k h).trans (Reaches.norm hs hm)
/-- A run's end, as a contract tells it. -/
def EndsB (P : Program) (T : List (Nat × Ty)) (gs : List GV) (fn : Func) (cbs : List CB) (r : BR) : Prop :=
  ∀ κ : Nat → Value, ∃ todo' st v es, (todo' = [] ∨ todo' = [.fin]) ∧ FromK P (bM cbs) fn (bA cbs 0 (bM cbs)) (bH κ cbs 0 (bM cbs) ++ gH gs (bM cbs + bR cbs)) (bM cbs + bR cbs + gs.length) (gL gs (bM cbs + bR cbs)) todo' st ∧ resVal T st fn.results.toList = some v ∧ endK (bM cbs) st v es = true ∧ (v.ren (fun e => idx e es), newOf st.hp (fun e => idx e es) es, updE st.hp (fun e => idx e es) es 0 (bT cbs)) = (r.val, r.new, some (r.upd.map fun l => l.map (CU.can κ)))

theorem updE_spec {hp : List (Nat × Blk)} {τ : Nat → Nat} {es : List Nat} : ∀ (l : List TypeId) (i : Nat) (r : List (List Seg)), updE hp τ es i l = some r → r.length = l.length ∧ ∀ (j : Nat) (ty : TypeId), l[j]? = some ty → ∃ b, look hp (i + j) = some b ∧ b.k = 0 ∧ b.ty = ty ∧ (∀ s ∈ b.c, expB 0 es (fun _ => false) s = true) ∧ r[j]? = some (renL τ b.c)
  | [], i, r, h => by
    simp only [updE, Option.some.injEq] at h
    subst h
    exact ⟨rfl, fun j ty hj => by simp at hj⟩
  | ty :: l, i, r, h => by
    unfold updE at h
    split at h
    · rename_i b hb
      split at h
      · rename_i r' hk hr
        injection h with h
        subst h
        simp only [Bool.and_eq_true, List.all_eq_true] at hk
        obtain ⟨h1, h2⟩ := updE_spec l (i + 1) r' hr
        refine ⟨by simp [h1], fun j ty' hj => ?_⟩
        cases j with
        | zero =>
          simp only [List.getElem?_cons_zero, Option.some.injEq] at hj
          subst hj
          exact ⟨b, hb, Nat.eq_of_beq_eq_true hk.1, Nat.eq_of_beq_eq_true hk.2.1, hk.2.2, rfl⟩
        | succ j =>
          obtain ⟨b', a1, a2⟩ := h2 j ty' (by simpa using hj)
          exact ⟨b', by rw [show i + (j + 1) = i + 1 + j by omega]; exact a1, by simpa using a2⟩
      · cases h
    · cases h
theorem updZ_spec {f : CU → Seg} : ∀ (ms : List Nat) (ts : List TypeId) (cs : List (List CU)), ms.Nodup → ts.length = ms.length → cs.length = ms.length → (∀ (j id : Nat) (ty : TypeId) (c : List CU), ms[j]? = some id → ts[j]? = some ty → cs[j]? = some c → look (updZ f ms ts cs) id = some (some ⟨0, ty, c.map f⟩)) ∧ (∀ id : Nat, id ∉ ms → look (updZ f ms ts cs) id = none) ∧ (updZ f ms ts cs = [] → ms = [])
  | [], _, _, _, _, _ => ⟨fun j id ty c h => by simp at h, fun _ _ => rfl, fun _ => rfl⟩
  | id :: ms, ty :: ts, c :: cs, hn, h1, h2 => by
    rw [List.nodup_cons] at hn
    obtain ⟨a1, a2, a3⟩ := updZ_spec (f := f) ms ts cs hn.2 (by simpa using h1) (by simpa using h2)
    refine ⟨fun j id' ty' c' e1 e2 e3 => ?_, fun id' hid => ?_, fun h => by cases h⟩
    · unfold updZ
      rw [look_cons]
      cases j with
      | zero =>
        simp only [List.getElem?_cons_zero, Option.some.injEq] at e1 e2 e3
        subst e1 e2 e3
        rw [if_pos rfl]
      | succ j =>
        simp only [List.getElem?_cons_succ] at e1 e2 e3
        rw [if_neg fun e => hn.1 (by rw [e]; exact List.mem_of_getElem? e1)]
        exact a1 j id' ty' c' e1 e2 e3
    · unfold updZ
      rw [look_cons, if_neg fun e => hid (by simp [e])]
      exact a2 id' fun h => hid (by simp [h])
  | _ :: _, [], _, _, h, _ => by simp at h
  | _ :: _, _ :: _, [], _, _, h => by simp at h
/-- Blocks whose contents are told otherwise. -/
theorem HR.recon {G' : Nat → Option Blk} (h : HR ρ D N M G w) (hG : ∀ id b', G' id = some b' → ∃ b, G id = some b ∧ b.k = b'.k ∧ b.ty = b'.ty ∧ segsVals ρ b'.c = segsVals ρ b.c ∧ segsIn D b'.c) : HR ρ D N M G' w := by
  refine ⟨h.size, fun id b' hb => ?_, fun id b' x hb hx => ?_, fun id b' x hb hk hx => ?_, fun i j bi bj x y hi hj hij hk hx hy => ?_, h.gw⟩
  · obtain ⟨b, h1, h2, h3, h4, h5⟩ := hG id b' hb
    obtain ⟨a1, a2, a3⟩ := h.blk id b h1
    refine ⟨a1, h5, ?_⟩
    unfold BlkOK at a3 ⊢
    rw [← h2, ← h3, h4]
    exact a3
  · obtain ⟨b, h1, _⟩ := hG id b' hb
    exact h.lt id b x h1 hx
  · obtain ⟨b, h1, h2, _⟩ := hG id b' hb
    exact h.own id b x h1 (by omega) hx
  · obtain ⟨b, h1, h2, _⟩ := hG i bi hi
    obtain ⟨b2, h3, _⟩ := hG j bj hj
    exact h.dist i j b b2 x y h1 h3 hij (by omega) hx hy
theorem msOf_eq {R G : Nat → Option Blk} : ∀ (shs : List ShB) (svs : List SV) (q : Nat) (cbs : List CB) (ms : List Nat) (ks : List Seg) (p : Asm), readBs R G q shs svs = some (cbs, ms, ks, p) → msOf shs svs = ms
  | [], [], q, cbs, ms, ks, p, h => by
    simp only [readBs, Option.some.injEq, Prod.mk.injEq] at h
    obtain ⟨rfl, rfl, rfl, rfl⟩ := h
    rfl
  | [], _ :: _, _, _, _, _, _, h => by cases h
  | _ :: _, [], _, _, _, _, _, h => by cases h
  | s :: shs, x :: svs, q, cbs, ms, ks, p, h => by
    unfold readBs at h
    split at h
    rotate_left
    · cases h
    rename_i c i k1 p1 hc
    split at h
    rotate_left
    · cases h
    rename_i cs is k2 q2 hcs
    simp only [Option.some.injEq, Prod.mk.injEq] at h
    obtain ⟨rfl, rfl, rfl, rfl⟩ := h
    have ih := msOf_eq shs svs _ cs is k2 q2 hcs
    subst ih
    unfold readB at hc
    repeat' split at hc
    all_goals first
      | cases hc; done
      | (simp only [Option.some.injEq, Prod.mk.injEq] at hc; obtain ⟨_, rfl, _, _⟩ := hc; rfl)
theorem hide_some {G : Nat → Option Blk} {ms : List Nat} {id : Nat} {b : Blk} (h : hide G ms id = some b) : G id = some b ∧ id ∉ ms := by
  unfold hide at h
  split at h
  · cases h
  · rename_i hm
    exact ⟨h, fun hx => by rw [memB_mem.2 hx] at hm; cases hm⟩
/-- The memory that a contract's run begins with. -/
theorem canB_hr (κ : Nat → Value) {cbs : List CB} {ms : List Nat} {gs : List GV} (hG : HR ρ D N M G w) (hgs : ∀ x, x ∈ gs → (x.1, x.2.2.map (Value.int x.2.1)) ∈ GT.tab) {ρc : Nat → Loc} (hms : ms.length = bM cbs) (hmn : ms.Nodup) (hm : ∀ (j id : Nat), ms[j]? = some id → ρc (0 + j) = ρ id) (hmG : ∀ (j id : Nat), ms[j]? = some id → ∃ b0, G id = some b0 ∧ b0.k = 0) (hρ : ∀ i x, gs[i]? = some x → ρc (bM cbs + bR cbs + i) = ⟨some ⟨x.1, 0, none⟩, x.2.2.length⟩) (h : ∀ i b, look (bH κ cbs 0 (bM cbs)) i = some b → CanR ρ (hide G ms) w ρc (bM cbs) (bM cbs + bR cbs) i b ∨ CanM ρ G ρc ms 0 (bM cbs) (bM cbs + bR cbs) i b) :
    HR ρc (· < bM cbs + bR cbs + gs.length) w.heap.size (ms.filterMap fun id => (ρ id).a.map (·.block)) (look (bH κ cbs 0 (bM cbs) ++ gH gs (bM cbs + bR cbs))) w := by
  have hgw := hG.gwc
  have hall : ∀ i b, look (bH κ cbs 0 (bM cbs) ++ gH gs (bM cbs + bR cbs)) i = some b → (i < bM cbs + bR cbs + gs.length ∧ b.k = 2 ∧ segsIn (· < bM cbs + bR cbs + gs.length) b.c ∧ ReadAt w (ρc i) (segsVals ρc b.c) ∧ ∀ (j id : Nat) (x y : Addr), ms[j]? = some id → (ρ id).a = some x → (ρc i).a = some y → x.block ≠ y.block) ∨ CanM ρ G ρc ms 0 (bM cbs) (bM cbs + bR cbs) i b := fun i b hb => by
    rw [look_app] at hb
    cases h1 : look (bH κ cbs 0 (bM cbs)) i with
    | some b' =>
      rw [h1] at hb
      simp only [Option.some_or, Option.some.injEq] at hb
      subst hb
      rcases h i b' h1 with ⟨a1, a2, a3, a4, a5, a6⟩ | h
      · refine .inl ⟨by omega, a3, a4.mono fun x hx => by omega, a5, fun j id x y hj hx hy => ?_⟩
        obtain ⟨id0, b0, x0, e1, e2, e3⟩ := a6 y hy
        obtain ⟨e4, e5⟩ := hide_some e1
        obtain ⟨b1, hb1, hk1⟩ := hmG j id hj
        rw [← e3]
        exact hG.dist id id0 b1 b0 x x0 hb1 e4 (fun e => e5 (by rw [← e]; exact List.mem_of_getElem? hj)) (by omega) hx e2
      · exact .inr h
    | none =>
      rw [h1, Option.none_or] at hb
      obtain ⟨h2, h3, x, hx, rfl⟩ := gH_spec _ _ _ _ hb
      obtain ⟨g1, g2, cs, ty, mk, g3, g4⟩ := hgw _ (hgs x (List.mem_of_getElem? hx))
      have e := hρ _ x hx
      rw [show bM cbs + bR cbs + (i - (bM cbs + bR cbs)) = i by omega] at e
      refine .inl ⟨h3, rfl, fun s hs => (by simp at hs; subst hs; trivial), ?_, fun j id x' y hj hx' hy => ?_⟩
      · rw [e, segsVals_one]
        refine ⟨by simp [Seg.vals], ?_, fun y hy => ?_⟩
        · right
          refine ⟨⟨x.1, 0, none⟩, rfl, fun j u hj => ?_⟩
          rw [Addr.add_lit]
          simp only at g3 g4
          simp only [Seg.vals] at hj
          rw [← g4] at hj
          simp only [World.cell?, g3, Nat.zero_add]
          simpa using hj
        · injection hy with hy
          subst hy
          exact g1
      · rw [e] at hy
        injection hy with hy
        subst hy
        obtain ⟨b1, hb1, hk1⟩ := hmG j id hj
        obtain ⟨k1, k2, _⟩ := hG.gw _ (hgs x (List.mem_of_getElem? hx))
        simp only at k1 k2
        rcases hG.own id b1 x' hb1 (by omega) hx' with h | h
        · intro e'
          simp only at e'
          omega
        · intro e'
          simp only at e'
          rw [e'] at h
          exact k2 h
  refine ⟨Nat.le_refl _, fun i b hb => ?_, fun i b x hb hx => ?_, fun i b x hb hk hx => ?_, fun i j bi bj x y hi hj hij hk hx hy => ?_, hG.gw.call hG.size fun g hg => ?_⟩
  · rcases hall i b hb with ⟨a1, a2, a3, a4, _⟩ | ⟨j, id, b0, e, hj, c1, c2, c3, c4, c5, c6⟩
    · refine ⟨a1, a3, ?_⟩
      obtain ⟨k, ty, c⟩ := b
      simp only at a2
      subst a2
      exact ⟨a4.1, a4.2.1⟩
    · have hjl : j < ms.length := (List.getElem?_eq_some_iff.1 hj).1
      refine ⟨by omega, c6.mono fun x hx => by omega, ?_⟩
      obtain ⟨k, ty, c⟩ := b
      simp only at c3 c4 c5
      subst c3 c4
      have hok := (hG.blk id b0 c1).2.2
      obtain ⟨k0, ty0, c0⟩ := b0
      simp only at c2
      subst c2
      obtain ⟨g, hg, hh⟩ := hok
      refine ⟨g, ?_, ?_⟩
      · rw [e, hm j id hj]; exact hg
      · rw [c5]; exact hh
  · rcases hall i b hb with ⟨a1, a2, a3, a4, _⟩ | ⟨j, id, b0, e, hj, c1, c2, c3, c4, c5, c6⟩
    · exact a4.2.2 x hx
    · rw [e, hm j id hj] at hx
      exact hG.lt id b0 x c1 hx
  · rcases hall i b hb with ⟨a1, a2, a3, a4, _⟩ | ⟨j, id, b0, e, hj, c1, c2, c3, c4, c5, c6⟩
    · omega
    · rw [e, hm j id hj] at hx
      right
      rw [List.mem_filterMap]
      exact ⟨id, List.mem_of_getElem? hj, by rw [hx]; rfl⟩
  · rcases hall i bi hi with ⟨a1, a2, a3, a4, _⟩ | ⟨j1, id, b0, e, hj1, c1, c2, c3, c4, c5, c6⟩
    · omega
    · rw [e, hm j1 id hj1] at hx
      rcases hall j bj hj with ⟨a1, a2, a3, a4, a5⟩ | ⟨j2, id2, b02, e2, hj2, d1, d2, d3, d4, d5, d6⟩
      · exact a5 j1 id x y hj1 hx hy
      · rw [e2, hm j2 id2 hj2] at hy
        refine hG.dist id id2 b0 b02 x y c1 d1 (fun e' => hij ?_) (by omega) hx hy
        subst e'
        rw [e, e2]
        have := (List.getElem?_inj (List.getElem?_eq_some_iff.1 hj1).1 hmn).1 (hj1.trans hj2.symm)
        omega
  · obtain ⟨id, hid, hgx⟩ := List.mem_filterMap.1 hg
    obtain ⟨j, hj⟩ := List.getElem?_of_mem hid
    obtain ⟨b0, hb0, hk0⟩ := hmG j id hj
    rw [Option.map_eq_some_iff] at hgx
    obtain ⟨x, hx, rfl⟩ := hgx
    exact hG.own id b0 x hb0 (by omega) hx

theorem Seg.ren_congr {f g : Nat → Nat} {s : Seg} (h : ∀ id ∈ s.ids, f id = g id) : s.ren f = s.ren g := by
  cases s <;> simp_all [Seg.ren, Seg.ids]
theorem renL_congr {f g : Nat → Nat} {l : List Seg} (h : ∀ s ∈ l, ∀ id ∈ s.ids, f id = g id) : renL f l = renL g l := by
  rw [renL_map, renL_map]
  exact List.map_congr_left fun s hs => Seg.ren_congr (h s hs)
theorem AV.ren_congr {f g : Nat → Nat} {a : AV} (h : ∀ s ∈ a.segs, ∀ id ∈ s.ids, f id = g id) : a.ren f = a.ren g := by
  cases a with
  | one s => simp only [AV.ren, Seg.ren_congr (h s (by simp [AV.segs]))]
  | agg l => simp only [AV.ren, renL_congr (l := l) h]
theorem SV.ren_congr {f g : Nat → Nat} {s : SV} (h : s.All fun x => ∀ id ∈ x.ids, f id = g id) : s.ren f = s.ren g := by
  cases s with
  | av a => simp only [SV.ren, AV.ren_congr (a := a) h]
  | tup l =>
    simp only [SV.ren, renT_map]
    congr 1
    exact List.map_congr_left fun a ha => AV.ren_congr (h a ha)
theorem exp_ids {es : List Nat} {s : Seg} (h : expB 0 es (fun _ => false) s = true) : (∀ id ∈ s.ids, id ∈ es) := by
  have key : ∀ id, (memB id es || (Nat.blt id 0 && false)) = true → id ∈ es := fun id h => by
    rw [Bool.and_false, Bool.or_false] at h
    exact memB_mem.1 h
  intro i hi
  cases s with
  | v | num | arr | ap | vs => simp [Seg.ids] at hi
  | p id off => simp [Seg.ids] at hi; subst hi; exact key _ h
  | s id off len cap => simp [Seg.ids] at hi; subst hi; exact key _ h
  | r id off len ad => simp [Seg.ids] at hi; subst hi; exact memB_mem.1 h
  | m id => cases h
theorem readBs_in {R : Nat → Option Blk} (hG : HR ρ D N M G w) (hR : ∀ id b, R id = some b → G id = some b) : ∀ (shs : List ShB) (svs : List SV) (q : Nat) (cbs : List CB) (ms : List Nat) (ks : List Seg) (p : Asm), readBs R G q shs svs = some (cbs, ms, ks, p) → ∀ x ∈ ks, x.In D ∧ oneB x = true
  | [], [], q, cbs, ms, ks, p, h => by
    simp only [readBs, Option.some.injEq, Prod.mk.injEq] at h
    obtain ⟨rfl, rfl, rfl, rfl⟩ := h
    exact fun x hx => by cases hx
  | [], _ :: _, _, _, _, _, _, h => by cases h
  | _ :: _, [], _, _, _, _, _, h => by cases h
  | s :: shs, x :: svs, q, cbs, ms, ks, p, h => by
    unfold readBs at h
    split at h
    rotate_left
    · cases h
    rename_i c i k1 p1 hc
    split at h
    rotate_left
    · cases h
    rename_i cs is k2 q2 hcs
    simp only [Option.some.injEq, Prod.mk.injEq] at h
    obtain ⟨rfl, rfl, rfl, rfl⟩ := h
    have h2 := readBs_in hG hR shs svs _ cs is k2 q2 hcs
    have h1 : ∀ x ∈ k1, x.In D ∧ oneB x = true := by
      unfold readB at hc
      repeat' split at hc
      all_goals first
        | cases hc; done
        | (simp only [Option.some.injEq, Prod.mk.injEq] at hc; obtain ⟨_, _, rfl, _⟩ := hc; exact fun x hx => absurd hx List.not_mem_nil)
        | skip
      all_goals
        simp only [Option.some.injEq, Prod.mk.injEq] at hc
        obtain ⟨_, _, rfl, _⟩ := hc
        refine readF_in _ _ _ _ _ _ (by assumption) ?_
        first
          | exact (hG.blk _ _ (by assumption)).2.1
          | exact (hG.blk _ _ (hR _ _ (by assumption))).2.1
    intro y hy
    rcases List.mem_append.1 hy with hy | hy
    · exact h1 y hy
    · exact h2 y hy
/-- A contract, out of runs. -/
theorem ok_B (hT : TOK P T) {f : FuncId} {fn : Func} (hf : P.funcs[f]? = some fn) (hname : (fn.name == "runtime.NumGoroutine") = false) (hbs : fn.body.isSome = true) (gs : List GV) (hgs : ∀ x, x ∈ gs → (x.1, x.2.2.map (Value.int x.2.1)) ∈ GT.tab) {sh : List ShB} {F : List CB → Option BR} (hlen : Nat.ble sh.length fn.ntmps = true)
    (h : ∀ cbs r, F cbs = some r → r.pre → EndsB P T gs fn cbs r) : EntOK P f (entB sh F) := by
  refine ⟨⟨fn, hf, hname, hbs⟩, fun args G base res hr ha ρ D N M w hG hin hfr => ?_⟩
  unfold entB at hr
  split at hr
  rotate_left
  · cases hr
  rename_i cbs ms ks p hread
  split at hr
  rotate_left
  · cases hr
  rename_i r hnd hF
  simp only [Option.some.injEq] at hr
  subst hr
  obtain ⟨hap, har⟩ := ha
  have har : r.pre := har
  obtain ⟨κ, hκ⟩ : ∃ κ : Nat → Value, κ = fun i => match ks[i]? with
    | some x => x.conc ρ
    | none => undef := ⟨_, rfl⟩
  obtain ⟨todo', st, v, es, hfin, ⟨c, hc, hRe⟩, hv, hend, heq⟩ := h cbs r hF har κ
  simp only [Prod.mk.injEq] at heq
  obtain ⟨hrv, hrn, hru⟩ := heq
  have hms := msOf_eq _ _ _ _ _ _ _ hread
  rw [hms] at hread
  have hmn := nodupB_spec hnd
  have hGR : HR ρ D N M (hide G ms) w := hG.weaken fun id b hb => (hide_some hb).1
  have hks := readBs_in hG (fun id b hb => (hide_some hb).1) sh args 0 cbs ms ks p hread
  obtain ⟨hcl, hml, htl, hmG, ρ0, hcan⟩ := canonB κ hGR sh args cbs ms ks p 0 0 (bM cbs) (by omega) hread hap (fun j x hj => by rw [hκ, Nat.zero_add]; simp only [hj])
  obtain ⟨ρc, hρc⟩ : ∃ ρc : Nat → Loc, ρc = fun i => if i < bM cbs then ρ (ms.getD i 0) else if i < bM cbs + bR cbs then ρ0 i else match gs[i - (bM cbs + bR cbs)]? with
    | some x => ⟨some ⟨x.1, 0, none⟩, x.2.2.length⟩
    | none => ⟨none, 0⟩ := ⟨_, rfl⟩
  have hm : ∀ (j id : Nat), ms[j]? = some id → ρc (0 + j) = ρ id := fun j id hj => by
    have hjl := (List.getElem?_eq_some_iff.1 hj).1
    rw [hρc, Nat.zero_add]
    simp only
    rw [if_pos (by omega), List.getD_eq_getElem?_getD, hj]; rfl
  obtain ⟨h4, h4i, h5, h6⟩ := hcan ρc (fun i h1 h2 => by
    rw [hρc]
    simp only
    rw [if_neg (by omega), if_pos h2]) hm
  have hρg : ∀ i x, gs[i]? = some x → ρc (bM cbs + bR cbs + i) = ⟨some ⟨x.1, 0, none⟩, x.2.2.length⟩ := fun i x hx => by
    rw [hρc]
    simp only
    rw [if_neg (by omega), if_neg (by omega), show bM cbs + bR cbs + i - (bM cbs + bR cbs) = i by omega, hx]
  have hG0 := canB_hr κ hG hgs hml hmn hm hmG hρg h5
  obtain ⟨hul, hus⟩ := updE_spec _ _ _ hru
  unfold endK at hend
  rw [Bool.and_eq_true, Bool.and_eq_true] at hend
  obtain ⟨hvX, heX, hen⟩ := hend
  have heX := List.all_eq_true.1 heX
  have hesn := nodupB_spec hen
  have hesS : ∀ e ∈ es, ms.length ≤ e ∧ ∃ b, look st.hp e = some b ∧ b.k < 2 := fun e he => by
    have := heX e he
    unfold esB at this
    split at this
    · rename_i b hb
      rw [Bool.and_eq_true, Bool.and_eq_true] at this
      exact ⟨by rw [hml]; exact Nat.le_of_ble_eq_true this.1, b, hb, Nat.le_of_ble_eq_true this.2.1⟩
    · cases this
  obtain ⟨hn1, hn2⟩ := newOf_spec (hp := st.hp) (τ := fun e => idx e es) (es := es) fun e he => (hesS e he).2.imp fun _ h => h.1
  rw [hrn] at hn1 hn2
  have hmuS : ∀ (i id : Nat), ms[i]? = some id → ∃ (b0 b : Blk) (ty : TypeId), (bT cbs)[i]? = some ty ∧ G id = some b0 ∧ b0.k = 0 ∧ look st.hp i = some b ∧ b.k = 0 ∧ b.ty = ty ∧ (∀ s ∈ b.c, expB 0 es (fun _ => false) s = true) ∧ ∃ cu, r.upd[i]? = some cu ∧ cu.map (CU.can κ) = renL (fun e => idx e es) b.c := fun i id hi => by
    obtain ⟨b0, hb0, hk0⟩ := hmG i id hi
    have hil := (List.getElem?_eq_some_iff.1 hi).1
    obtain ⟨ty, hty⟩ : ∃ ty, (bT cbs)[i]? = some ty := ⟨_, List.getElem?_eq_getElem (by omega)⟩
    obtain ⟨b, e1, e2, e3, e4, e5⟩ := hus i ty hty
    rw [Nat.zero_add] at e1
    rw [List.getElem?_map, Option.map_eq_some_iff] at e5
    obtain ⟨cu, e5, e6⟩ := e5
    exact ⟨b0, b, ty, hty, hb0, hk0, e1, e2, e3, e4, cu, e5, e6⟩
  rw [List.length_map] at hul
  obtain ⟨f0, hf0⟩ : ∃ f0 : CU → Seg, f0 = fun u => (CU.can κ u).ren fun e => base + e := ⟨_, rfl⟩
  obtain ⟨hz1, hz2, hz3⟩ := updZ_spec (f := f0) ms (bT cbs) r.upd hmn (by omega) (by omega)
  obtain ⟨hy1, hy2, hy3⟩ := updZ_spec (f := CU.act base ks) ms (bT cbs) r.upd hmn (by omega) (by omega)
  have hσn : ∀ (i j id : Nat), ms[i]? = some id → ms[j]? = some id → i = j := fun i j id hi hj => (List.getElem?_inj (List.getElem?_eq_some_iff.1 hi).1 hmn).1 (hi.trans hj.symm)
  have hargs : (args.map (SV.conc ρ)).toArray = ((bA cbs 0 (bM cbs)).map (SV.conc ρc)).toArray := by rw [h4]
  have hbl : (bA cbs 0 (bM cbs)).length = sh.length := by
    have := congrArg List.length h4
    simp only [List.length_map] at this
    have hal : args.length = sh.length := by
      have key : ∀ {R : Nat → Option Blk} (sh : List ShB) (args : List SV) (q : Nat) (x : List CB × List Nat × List Seg × Asm), readBs R G q sh args = some x → args.length = sh.length := by
        intro R sh
        induction sh with
        | nil => intro args q x h; cases args with
          | nil => rfl
          | cons _ _ => cases h
        | cons s l ih => intro args q x h; cases args with
          | nil => cases h
          | cons y m =>
            unfold readBs at h
            split at h
            · split at h
              · rename_i hcs
                simp [ih m _ _ hcs]
              · cases h
            · cases h
      exact key sh args 0 _ hread
    omega
  rw [hargs]
  obtain ⟨Mc, hMc⟩ : ∃ Mc : List Nat, Mc = ms.filterMap fun id => (ρ id).a.map (·.block) := ⟨_, rfl⟩
  rw [← hMc] at hG0
  refine calls_am hf hc (ρ := ρc) (M := Mc) (nx := bM cbs + bR cbs + gs.length) (hp := bH κ cbs 0 (bM cbs) ++ gH gs (bM cbs + bR cbs)) (gl := gL gs (bM cbs + bR cbs)) rfl (fun s hs => ?_) (by rw [hbl]; exact Nat.le_of_ble_eq_true hlen) hG0 (lk := fun i => if i < bM cbs then (ρc i).a else none) (fun x i hx => ?_) ?_
  · exact (h4i s hs).mono fun x hx => by
      have hx : x < bM cbs + bR cbs := hx
      omega
  · rcases hx with ⟨g, rfl, hx⟩ | hx
    · obtain ⟨g1, g2, y, hy, rfl⟩ := gL_spec _ _ _ _ hx
      have := hρg _ y hy
      rw [show bM cbs + bR cbs + (i - (bM cbs + bR cbs)) = i by omega] at this
      exact ⟨by rw [this], g2⟩
    · by_cases hi : i < bM cbs
      · simp only [if_pos hi] at hx; exact ⟨hx, by omega⟩
      · simp only [if_neg hi] at hx; cases hx
  refine hRe _ _ _ _ (fun id x hx => ?_) (runs_end hT hfin hv fun ρ1 a1 w1 hrel => ⟨_, rfl, ?_⟩)
  · by_cases hi : id < bM cbs
    · exact hi
    · simp only [if_neg hi] at hx; cases hx
  have hlk : ∀ id x, (if id < bM cbs then (ρc id).a else none) = some x → (ρ1 id).a = some x := fun id x hx => (hrel.rel.globals x id (.inr hx)).1
  have hlk' : ∀ (i id : Nat) (x : Addr), ms[i]? = some id → (ρ id).a = some x → (ρ1 i).a = some x := fun i id x hi hx => by
    refine hlk i x ?_
    have hil := (List.getElem?_eq_some_iff.1 hi).1
    have := hm i id hi
    rw [Nat.zero_add] at this
    rw [if_pos (by omega), this]
    exact hx
  have hnewl : r.new.length = es.length := by rw [← hrn]; rw [← hrn] at hn1; exact hn1
  have hfit : ∃ ρ', Fits ρ D N M G base { val := r.val.ren (fun e => base + e), new := r.new.map fun b => ⟨b.k, b.ty, renL (fun e => base + e) b.c⟩, upd := updZ f0 ms (bT cbs) r.upd, asm := p.and (.say r.pre) } w ρ' (v.conc ρ1) w1 := by
    refine inl_fits (G1 := look st.hp) (nx := st.nx) (σ := ms) (es := es) (mu := List.range (bM cbs)) (Mc := Mc) hG (fun i id hi => ?_) hσn (fun id h1 h2 => hfr id h1 (by simp only [List.length_map]; omega)) hrel.rel.hr hrel.rel.kept hlk' (fun g hg => ?_) (fun i hi => ?_) hesS (fun i j e h1 h2 => ?_) (τ := fun i => if i < bM cbs then ms.getD i 0 else base + idx i es) (fun i id hi => ?_) (fun j e he => ?_) (r := { val := r.val.ren (fun e => base + e), new := r.new.map fun b => ⟨b.k, b.ty, renL (fun e => base + e) b.c⟩, upd := updZ f0 ms (bT cbs) r.upd, asm := p.and (.say r.pre) }) ?_ (by simp only [List.length_map]; exact hnewl) (fun j e b he hb => ?_) (fun i id b hi hid hb => ?_) (fun id hid => hz2 id fun hmem => ?_) (fun hu => ?_) (fun s => expB 0 es (fun _ => false) s = true) (fun s hs => ?_) (SV.allB_all.1 hvX) (fun e he b hb s hs => ?_) (fun i hi b hb s hs => ?_)
    · obtain ⟨b0, hb0, _⟩ := hmG i id hi
      exact (hG.blk id b0 hb0).1
    · rw [hMc] at hg
      obtain ⟨id, hid, hgx⟩ := List.mem_filterMap.1 hg
      obtain ⟨j, hj⟩ := List.getElem?_of_mem hid
      rw [Option.map_eq_some_iff] at hgx
      obtain ⟨x, hx, rfl⟩ := hgx
      have hjl := (List.getElem?_eq_some_iff.1 hj).1
      exact ⟨j, id, x, List.mem_range.2 (by omega), hj, hx, rfl⟩
    · have hil := List.mem_range.1 hi
      have hi2 : ms[i]? = some ms[i] := List.getElem?_eq_getElem (by omega)
      obtain ⟨b0, b, ty, _, e1, e2, e3, e4, _⟩ := hmuS i _ hi2
      exact ⟨_, b0, b, hi2, e1, e2, e3, e4⟩
    · exact (List.getElem?_inj (List.getElem?_eq_some_iff.1 h1).1 hesn).1 (h1.trans h2.symm)
    · have hil := (List.getElem?_eq_some_iff.1 hi).1
      rw [if_pos (by omega), List.getD_eq_getElem?_getD, hi]; rfl
    · have he' := List.mem_of_getElem? he
      have h1 := idx_get he'
      have h2 := (hesS e he').1
      rw [if_neg (by omega), (List.getElem?_inj (idx_lt he') hesn).1 (h1.trans he.symm)]
    · show r.val.ren (fun e => base + e) = _
      rw [← hrv, SV.ren_ren]
      refine SV.ren_congr ((SV.allB_all.1 hvX).mono fun s hs id hid => ?_)
      have := (hesS id (exp_ids hs id hid)).1
      rw [if_neg (by omega)]
    · have h1 := hn2 j e b he hb
      show (r.new.map _)[j]? = _
      rw [List.getElem?_map, h1]
      simp only [Option.map_some, renL_ren]
      congr 2
      refine renL_congr fun s hs id hid => ?_
      have hX := heX e (List.mem_of_getElem? he)
      unfold esB at hX
      rw [hb] at hX
      simp only [Bool.and_eq_true, List.all_eq_true] at hX
      have := (hesS id (exp_ids (hX.2.2 s hs) id hid)).1
      rw [if_neg (by omega)]
    · obtain ⟨b0, b', ty, e0, e1, e2, e3, e4, e5, e6, cu, e7, e8⟩ := hmuS i id hid
      rw [hb] at e3
      injection e3 with e3
      subst e3
      have e9 : cu.map f0 = renL (fun e => base + e) (renL (fun e => idx e es) b.c) := by rw [← e8, renL_map, List.map_map, hf0]; rfl
      rw [hz1 i id ty _ hid e0 e7, e5, e9, renL_ren]
      congr 3
      refine renL_congr fun s hs id hid => ?_
      have := (hesS id (exp_ids (e6 s hs) id hid)).1
      rw [if_neg (by omega)]
    · obtain ⟨j, hj⟩ := List.getElem?_of_mem hmem
      have hjl := (List.getElem?_eq_some_iff.1 hj).1
      exact hid j (List.mem_range.2 (by omega)) hj
    · have h0 := hz3 hu
      rw [h0] at hml
      rw [← hml]
      rfl
    · exact ⟨fun id hid => .inl (exp_ids hs id hid), fun id o l a he => by subst he; exact exp_ids hs id (by simp [Seg.ids])⟩
    · have hX := heX e he
      unfold esB at hX
      rw [hb] at hX
      simp only [Bool.and_eq_true, List.all_eq_true] at hX
      exact hX.2.2 s hs
    · have hil := List.mem_range.1 hi
      have hi2 : ms[i]? = some ms[i] := List.getElem?_eq_getElem (by omega)
      obtain ⟨b0, b', ty, e0, e1, e2, e3, e4, e5, e6, _⟩ := hmuS i _ hi2
      rw [hb] at e3
      injection e3 with e3
      subst e3
      exact e6 s hs
  obtain ⟨ρ', hF⟩ := hfit
  have hκx : ∀ i, (Seg.v (κ i)).vals ρ' = (ks.getD i (.v undef)).vals ρ' ∧ (ks.getD i (.v undef)).In D := fun i => by
    rw [hκ]
    cases hi : ks[i]? with
    | none => simp [List.getD_eq_getElem?_getD, hi, Seg.vals, Seg.conc, Seg.In]
    | some x =>
      obtain ⟨h1, h2⟩ := hks x (List.mem_of_getElem? hi)
      refine ⟨?_, by simpa [List.getD_eq_getElem?_getD, hi] using h1⟩
      have e : ks.getD i (.v undef) = x := by simp [List.getD_eq_getElem?_getD, hi]
      rw [e, oneB_vals h2, Seg.conc_congr hF.agree h1]
      show [(match ks[i]? with | some x => x.conc ρ | none => undef)] = _
      rw [hi]
  refine ⟨ρ', hF.agree, hF.val, ?_, hF.kept, fun hu => hF.fresh ?_⟩
  · refine hF.hr.recon fun id b' hb' => ?_
    by_cases hid : id ∈ ms
    · obtain ⟨i, hi⟩ := List.getElem?_of_mem hid
      obtain ⟨b0, b, ty, e0, e1, e2, e3, e4, e5, e6, cu, e7, e8⟩ := hmuS i id hi
      have a1 : appl G base { val := r.val.ren (fun e => base + e), new := r.new.map fun b => ⟨b.k, b.ty, renL (fun e => base + e) b.c⟩, upd := updZ (CU.act base ks) ms (bT cbs) r.upd, asm := p.and (.say r.pre) } id = some ⟨0, ty, cu.map (CU.act base ks)⟩ := by
        unfold appl
        rw [hy1 i id ty cu hi e0 e7]
      have a2 : appl G base { val := r.val.ren (fun e => base + e), new := r.new.map fun b => ⟨b.k, b.ty, renL (fun e => base + e) b.c⟩, upd := updZ f0 ms (bT cbs) r.upd, asm := p.and (.say r.pre) } id = some ⟨0, ty, cu.map f0⟩ := by
        unfold appl
        rw [hz1 i id ty cu hi e0 e7]
      rw [a1] at hb'
      injection hb' with hb'
      subst hb'
      have hin2 := (hF.hr.blk id _ a2).2.1
      refine ⟨_, a2, rfl, rfl, ?_, fun s hs => ?_⟩
      · simp only [segsVals, List.flatMap_map]
        congr 1
        funext u
        rw [hf0]
        cases u with
        | s s => rfl
        | k i => exact (hκx i).1.symm
      · obtain ⟨u, hu, rfl⟩ := List.mem_map.1 hs
        cases u with
        | s s => exact hin2 _ (List.mem_map.2 ⟨_, hu, by rw [hf0]; rfl⟩)
        | k i => exact (hκx i).2.mono fun x hx => .inl hx
    · have a1 : appl G base { val := r.val.ren (fun e => base + e), new := r.new.map fun b => ⟨b.k, b.ty, renL (fun e => base + e) b.c⟩, upd := updZ (CU.act base ks) ms (bT cbs) r.upd, asm := p.and (.say r.pre) } id = appl G base { val := r.val.ren (fun e => base + e), new := r.new.map fun b => ⟨b.k, b.ty, renL (fun e => base + e) b.c⟩, upd := updZ f0 ms (bT cbs) r.upd, asm := p.and (.say r.pre) } id := by
        unfold appl
        rw [hy2 id hid, hz2 id hid]
      rw [a1] at hb'
      exact ⟨b', hb', rfl, rfl, rfl, (hF.hr.blk id b' hb').2.1⟩
  · have h0 := hy3 hu
    subst h0
    rfl
end
end Go.Proofs.YtpefomdegbmecaaDoor.Am
