/- The cipher: a block's rounds. Conditions: none. -/
import Derived.Test.YtkoackalpcmhaaaZ5
set_option linter.unusedSectionVars false
namespace Go.Proofs.Ytkoackalpcmhaaa.Am
set_option linter.unusedVariables false
set_option linter.unusedSimpArgs false
open Go Go.RowKit
variable [GT]

omit [GT] in
def turnH : Nat → Nat → Hint := atH 1 4 symH (atH 1 5 symH (atH 1 10 symH (atH 1 11 symH (atH 1 16 symH (atH 1 17 symH (atH 1 22 symH (atH 1 23 symH noH)))))))
omit [GT] in
noncomputable def turnE : Ent := inl tyT [] turnH [] 1000 Try.f23 []
theorem turn_ent : EntOK Try.prog 23 turnE := inl_ok tyT_ok (ook_of (l := []) trivial) mixed_ Try.func23 (by kernel_rfl) (by kernel_rfl) []
omit [GT] in
noncomputable def addE : Ent := inl tyT [(22, eWith)] noH [(1, 5)] 1000 Try.f27 [0]
theorem add_ent : EntOK Try.prog 27 addE := inl_ok tyT_ok (ook_of (l := [(22, eWith)]) ⟨with_ent, trivial⟩) mixed_ Try.func27 (by kernel_rfl) (by kernel_rfl) [0]
omit [GT] in
noncomputable def rowsE : Ent := inl tyT [] noH [(2, 5), (5, 5)] 1000 Try.f28 [0]
theorem rows_ent : EntOK Try.prog 28 rowsE := inl_ok tyT_ok (ook_of (l := []) trivial) mixed_ Try.func28 (by kernel_rfl) (by kernel_rfl) [0]
omit [GT] in
noncomputable def bO : List (Nat × Ent) := [(23, turnE), (27, addE), (28, rowsE), (29, eMix)]
theorem bO_ok : OOK Try.prog bO := ook_of ⟨turn_ent, add_ent, rows_ent, mix_ent, trivial⟩

omit [GT] in
def keyL (n : Nat) (kf : Nat → Int) : List Int := (upTo 0 n).map kf
omit [GT] in
def bHp (kf : Nat → Int) : List (Nat × Blk) := [(0, ⟨2, 66, [.arr .u8 sbox]⟩), (1, ⟨2, 53, [.p 0 0, .arr .u8 (keyL 240 kf)]⟩)]
omit [GT] in
def bArgs (bf : Nat → Int) : List SV := [.av (.one (.p 1 0)), .av (.one (.arr .u8 (keyL 16 bf)))]
omit [GT] in
def bLH : List (Nat × Nat) := [(3, 5), (12, 5), (18, 5), (26, 17)]
omit [GT] in
noncomputable def bTodo : List AI := match Try.f13.body with
  | some c => todoOf (arun tyT bO noH bLH 1000 [.code c] (start (bArgs fun _ => 0) 86 (bHp fun _ => 0) 2 []))
  | none => []
omit [GT] in
noncomputable def bX : Code := loopOf bTodo
omit [GT] in
noncomputable def bK : List AI := restOf bTodo
omit [GT] in
def piece (g : Nat → Int) (c : Nat) : Seg := .arr .u8 [g (4 * c), g (4 * c + 1), g (4 * c + 2), g (4 * c + 3)]
omit [GT] in
/-- The state at the rounds' head. -/
def bS (kf g : Nat → Int) (r : Int) : St := { tm := tmL 86 [(0, .av (.one (.p 1 0))), (4, .av (.one (.p 2 0))), (5, .av (.one (.p 3 0))), (7, ofV (.int .i64 r))], hp := bHp kf ++ [(2, ⟨0, 23, [.arr .u8 (List.replicate 16 0)]⟩), (3, ⟨0, 59, [piece g 0, piece g 1, piece g 2, piece g 3]⟩)], nx := 4, gl := [] }
omit [GT] in
def wk (g kf : Nat → Int) (r c : Nat) : List Int := wx [g (4 * c), g (4 * c + 1), g (4 * c + 2), g (4 * c + 3), kf (16 * r + 4 * c), kf (16 * r + 4 * c + 1), kf (16 * r + 4 * c + 2), kf (16 * r + 4 * c + 3)] 2
omit [GT] in
/-- A round's words put to it. -/
def gAdd (kf : Nat → Int) (r : Nat) (g : Nat → Int) (i : Nat) : Int := g2 (wk g kf r (i / 4)) (i % 4)
omit [GT] in
def sb (x : Int) : Int := sbox.getD x.toNat 0
omit [GT] in
def gRow (g : Nat → Int) (i : Nat) : Int := sb (g (4 * ((i / 4 + i % 4) % 4) + i % 4))
omit [GT] in
def gMix (g : Nat → Int) (i : Nat) : Int := g2 (mixW (g (4 * (i / 4))) (g (4 * (i / 4) + 1)) (g (4 * (i / 4) + 2)) (g (4 * (i / 4) + 3))) (i % 4)
omit [GT] in
def bPs (g : Nat → Int) : Nat → Nat → List Prop
  | _, 0 => []
  | i, n + 1 => (0 ≤ g i ∧ (g i).toNat ≤ 255) :: ((g i).toNat < sbox.length) :: bPs g (i + 1) n
theorem b_start (kf bf : Nat → Int) {c : Code} (hc : Try.f13.body = some c) : runN tyT bO noH bLH 1000 2 [3, 4] [0, 4, 5, 7] [.code c] (start (bArgs bf) 86 (bHp kf) 2 []) = some (.code (.loop bX) :: bK, bS kf (gAdd kf 0 bf) 1, []) := by
  have : ∀ d, Try.f13.body = d → (match d with | some c => runN tyT bO noH bLH 1000 2 [3, 4] [0, 4, 5, 7] [.code c] (start (bArgs bf) 86 (bHp kf) 2 []) | none => none) = some (.code (.loop bX) :: bK, bS kf (gAdd kf 0 bf) 1, []) := by
    intro d hd
    subst hd
    kernel_rfl
  exact this _ hc
theorem b_round1 (kf g : Nat → Int) (n : Nat) : runN tyT bO noH bLH 2000 4 [] [0, 4, 5, 7] (.code bX :: .hd n bX :: bK) (bS kf g 1) = some (.hd n bX :: bK, bS kf (gAdd kf 1 (gMix (gRow g))) 2, bPs g 0 16) := by
  kernel_rfl
theorem b_round2 (kf g : Nat → Int) (n : Nat) : runN tyT bO noH bLH 2000 4 [] [0, 4, 5, 7] (.code bX :: .hd n bX :: bK) (bS kf g 2) = some (.hd n bX :: bK, bS kf (gAdd kf 2 (gMix (gRow g))) 3, bPs g 0 16) := by
  kernel_rfl
theorem b_round3 (kf g : Nat → Int) (n : Nat) : runN tyT bO noH bLH 2000 4 [] [0, 4, 5, 7] (.code bX :: .hd n bX :: bK) (bS kf g 3) = some (.hd n bX :: bK, bS kf (gAdd kf 3 (gMix (gRow g))) 4, bPs g 0 16) := by
  kernel_rfl
theorem b_round4 (kf g : Nat → Int) (n : Nat) : runN tyT bO noH bLH 2000 4 [] [0, 4, 5, 7] (.code bX :: .hd n bX :: bK) (bS kf g 4) = some (.hd n bX :: bK, bS kf (gAdd kf 4 (gMix (gRow g))) 5, bPs g 0 16) := by
  kernel_rfl
theorem b_round5 (kf g : Nat → Int) (n : Nat) : runN tyT bO noH bLH 2000 4 [] [0, 4, 5, 7] (.code bX :: .hd n bX :: bK) (bS kf g 5) = some (.hd n bX :: bK, bS kf (gAdd kf 5 (gMix (gRow g))) 6, bPs g 0 16) := by
  kernel_rfl
theorem b_round6 (kf g : Nat → Int) (n : Nat) : runN tyT bO noH bLH 2000 4 [] [0, 4, 5, 7] (.code bX :: .hd n bX :: bK) (bS kf g 6) = some (.hd n bX :: bK, bS kf (gAdd kf 6 (gMix (gRow g))) 7, bPs g 0 16) := by
  kernel_rfl
theorem b_round7 (kf g : Nat → Int) (n : Nat) : runN tyT bO noH bLH 2000 4 [] [0, 4, 5, 7] (.code bX :: .hd n bX :: bK) (bS kf g 7) = some (.hd n bX :: bK, bS kf (gAdd kf 7 (gMix (gRow g))) 8, bPs g 0 16) := by
  kernel_rfl
theorem b_round8 (kf g : Nat → Int) (n : Nat) : runN tyT bO noH bLH 2000 4 [] [0, 4, 5, 7] (.code bX :: .hd n bX :: bK) (bS kf g 8) = some (.hd n bX :: bK, bS kf (gAdd kf 8 (gMix (gRow g))) 9, bPs g 0 16) := by
  kernel_rfl
theorem b_round9 (kf g : Nat → Int) (n : Nat) : runN tyT bO noH bLH 2000 4 [] [0, 4, 5, 7] (.code bX :: .hd n bX :: bK) (bS kf g 9) = some (.hd n bX :: bK, bS kf (gAdd kf 9 (gMix (gRow g))) 10, bPs g 0 16) := by
  kernel_rfl
theorem b_round10 (kf g : Nat → Int) (n : Nat) : runN tyT bO noH bLH 2000 4 [] [0, 4, 5, 7] (.code bX :: .hd n bX :: bK) (bS kf g 10) = some (.hd n bX :: bK, bS kf (gAdd kf 10 (gMix (gRow g))) 11, bPs g 0 16) := by
  kernel_rfl
theorem b_round11 (kf g : Nat → Int) (n : Nat) : runN tyT bO noH bLH 2000 4 [] [0, 4, 5, 7] (.code bX :: .hd n bX :: bK) (bS kf g 11) = some (.hd n bX :: bK, bS kf (gAdd kf 11 (gMix (gRow g))) 12, bPs g 0 16) := by
  kernel_rfl
theorem b_round12 (kf g : Nat → Int) (n : Nat) : runN tyT bO noH bLH 2000 4 [] [0, 4, 5, 7] (.code bX :: .hd n bX :: bK) (bS kf g 12) = some (.hd n bX :: bK, bS kf (gAdd kf 12 (gMix (gRow g))) 13, bPs g 0 16) := by
  kernel_rfl
theorem b_round13 (kf g : Nat → Int) (n : Nat) : runN tyT bO noH bLH 2000 4 [] [0, 4, 5, 7] (.code bX :: .hd n bX :: bK) (bS kf g 13) = some (.hd n bX :: bK, bS kf (gAdd kf 13 (gMix (gRow g))) 14, bPs g 0 16) := by
  kernel_rfl
theorem b_round14 (kf g : Nat → Int) (n : Nat) : runN tyT bO noH bLH 2000 4 [] [0, 4, 5, 7] (.code bX :: .hd n bX :: bK) (bS kf g 14) = some (.hd n bX :: bK, bS kf (gAdd kf 14 (gRow g)) 15, bPs g 0 16) := by
  kernel_rfl
omit [GT] in
def bEnd (kf g : Nat → Int) : St := { tm := tmL 86 [(4, .av (.one (.p 2 0)))], hp := bHp kf ++ [(2, ⟨0, 23, [.arr .u8 (keyL 16 g)]⟩)], nx := 3, gl := [] }
theorem b_end (kf g : Nat → Int) (n : Nat) : runN tyT bO noH bLH 2000 3 [] [4] (.code bX :: .hd n bX :: bK) (bS kf g 15) = some ([.fin], bEnd kf g, []) := by
  kernel_rfl

theorem u8_wrap (x : Nat) : 0 ≤ IntKind.u8.wrap x ∧ (IntKind.u8.wrap x).toNat ≤ 255 := by
  have : IntKind.u8.wrap (x : Int) = (x : Int) % 256 := by
    simp [IntKind.wrap, IntKind.bits, IntKind.signed]
  rw [this]
  omega
theorem bx_range (a b : Int) : 0 ≤ bx a b ∧ (bx a b).toNat ≤ 255 := u8_wrap _
theorem bPs_ok {g : Nat → Int} (h : ∀ i, 0 ≤ g i ∧ (g i).toNat ≤ 255) : ∀ n i, AllP (bPs g i n)
  | 0, _ => trivial
  | n + 1, i => ⟨h i, by have := (h i).2; have : sbox.length = 256 := by decide +kernel
                         omega, bPs_ok h n (i + 1)⟩
theorem g2_range {l : List Int} (h : ∀ x ∈ l, 0 ≤ x ∧ x.toNat ≤ 255) (i : Nat) : 0 ≤ g2 l i ∧ (g2 l i).toNat ≤ 255 := by
  unfold g2
  rw [List.getD_eq_getElem?_getD]
  cases hx : l[i]? with
  | none => exact ⟨Int.le_refl _, Nat.zero_le _⟩
  | some x => exact h x (List.mem_of_getElem? hx)
theorem gAdd_range (kf : Nat → Int) (r : Nat) (g : Nat → Int) (i : Nat) : 0 ≤ gAdd kf r g i ∧ (gAdd kf r g i).toNat ≤ 255 := by
  unfold gAdd
  refine g2_range (fun x hx => ?_) _
  simp only [wk, wx, List.mem_cons, List.not_mem_nil, or_false] at hx
  rcases hx with rfl | rfl | rfl | rfl <;> exact bx_range _ _
omit [GT] in
/-- So many rounds. -/
def rnds (kf : Nat → Int) : Nat → Nat → (Nat → Int) → (Nat → Int)
  | _, 0, g => g
  | r, n + 1, g => rnds kf (r + 1) n (gAdd kf r (gMix (gRow g)))
omit [GT] in
def encG (kf bf : Nat → Int) : Nat → Int := gAdd kf 14 (gRow (rnds kf 1 13 (gAdd kf 0 bf)))
theorem b_reach (kf bf : Nat → Int) {c : Code} (hc : Try.f13.body = some c) : Reaches Try.prog 0 [.code c] (start (bArgs bf) 86 (bHp kf) 2 []) [.fin] (bEnd kf (encG kf bf)) := by
  have hr := fun r g => bPs_ok (gAdd_range kf r g) 16 0
  refine (reach_run tyT_ok bO_ok mixed_ (b_start kf bf hc) trivial rfl).trans (Reaches.loop 15 ?_)
  refine Reaches.round ((reach_run tyT_ok bO_ok mixed_ (b_round1 kf _ 14) (hr _ _) rfl).trans ?_)
  refine Reaches.round ((reach_run tyT_ok bO_ok mixed_ (b_round2 kf _ 13) (hr _ _) rfl).trans ?_)
  refine Reaches.round ((reach_run tyT_ok bO_ok mixed_ (b_round3 kf _ 12) (hr _ _) rfl).trans ?_)
  refine Reaches.round ((reach_run tyT_ok bO_ok mixed_ (b_round4 kf _ 11) (hr _ _) rfl).trans ?_)
  refine Reaches.round ((reach_run tyT_ok bO_ok mixed_ (b_round5 kf _ 10) (hr _ _) rfl).trans ?_)
  refine Reaches.round ((reach_run tyT_ok bO_ok mixed_ (b_round6 kf _ 9) (hr _ _) rfl).trans ?_)
  refine Reaches.round ((reach_run tyT_ok bO_ok mixed_ (b_round7 kf _ 8) (hr _ _) rfl).trans ?_)
  refine Reaches.round ((reach_run tyT_ok bO_ok mixed_ (b_round8 kf _ 7) (hr _ _) rfl).trans ?_)
  refine Reaches.round ((reach_run tyT_ok bO_ok mixed_ (b_round9 kf _ 6) (hr _ _) rfl).trans ?_)
  refine Reaches.round ((reach_run tyT_ok bO_ok mixed_ (b_round10 kf _ 5) (hr _ _) rfl).trans ?_)
  refine Reaches.round ((reach_run tyT_ok bO_ok mixed_ (b_round11 kf _ 4) (hr _ _) rfl).trans ?_)
  refine Reaches.round ((reach_run tyT_ok bO_ok mixed_ (b_round12 kf _ 3) (hr _ _) rfl).trans ?_)
  refine Reaches.round ((reach_run tyT_ok bO_ok mixed_ (b_round13 kf _ 2) (hr _ _) rfl).trans ?_)
  refine Reaches.round ((reach_run tyT_ok bO_ok mixed_ (b_round14 kf _ 1) (hr _ _) rfl).trans ?_)
  exact Reaches.round (reach_run tyT_ok bO_ok mixed_ (b_end kf _ 0) trivial rfl)
end Go.Proofs.Ytkoackalpcmhaaa.Am
/- The cipher: Block's contract. Conditions: none. -/
namespace Go.Proofs.Ytkoackalpcmhaaa.Am
set_option linter.unusedVariables false
set_option linter.unusedSimpArgs false
open Go Go.RowKit
variable [GT]

theorem upTo_len : ∀ i n : Nat, (upTo i n).length = n
  | _, 0 => rfl
  | i, n + 1 => by simp [upTo, upTo_len (i + 1) n]
theorem upTo_get : ∀ (i n j : Nat), j < n → (upTo i n)[j]? = some (i + j)
  | _, 0, _, h => by omega
  | i, n + 1, 0, _ => rfl
  | i, n + 1, j + 1, h => by
    rw [upTo, List.getElem?_cons_succ, upTo_get (i + 1) n j (by omega)]
    congr 1
    omega
theorem keyL_len (n : Nat) (f : Nat → Int) : (keyL n f).length = n := by simp [keyL, upTo_len]
theorem keyL_get (n : Nat) (f : Nat → Int) (j : Nat) (h : j < n) : (keyL n f)[j]? = some (f j) := by
  rw [keyL, List.getElem?_map, upTo_get 0 n j h, Nat.zero_add]
  rfl
theorem keyL_g2 {n : Nat} {l : List Int} (h : l.length = n) : keyL n (g2 l) = l := by
  refine List.ext_getElem? fun j => ?_
  by_cases hj : j < n
  · rw [keyL_get n _ j hj, g2, List.getD_eq_getElem?_getD, List.getElem?_eq_getElem (by omega)]
    rfl
  · rw [List.getElem?_eq_none (by rw [keyL_len]; omega), List.getElem?_eq_none (by omega)]
theorem g2_keyL (n : Nat) (f : Nat → Int) (j : Nat) (h : j < n) : g2 (keyL n f) j = f j := by
  rw [g2, List.getD_eq_getElem?_getD, keyL_get n f j h]
  rfl
theorem keyL_congr {n : Nat} {f g : Nat → Int} (h : ∀ j, j < n → f j = g j) : keyL n f = keyL n g := by
  refine List.ext_getElem? fun j => ?_
  by_cases hj : j < n
  · rw [keyL_get n _ j hj, keyL_get n _ j hj, h j hj]
  · rw [List.getElem?_eq_none (by rw [keyL_len]; omega), List.getElem?_eq_none (by rw [keyL_len]; omega)]

omit [GT] in
/-- A block's, by key's words and bytes. -/
def encL (ks bs : List Int) : List Int := keyL 16 (encG (g2 ks) (g2 bs))
omit [GT] in
def eBlock : Ent := fun args G _ => match args with
  | [.av (.one (.p id 0)), .av b] => match G id with
    | some ⟨_, _, .p bid 0 :: rest⟩ => match G bid, intsOf .u8 rest, intsOf .u8 b.segs, aggB b with
      | some bb, some ks, some bs, true => match intsOf .u8 bb.c, Nat.beq ks.length 240 && Nat.beq bs.length 16 with
        | some l, true => some { val := .av (.one (.arr .u8 (encL ks bs))), asm := .say (l = sbox) }
        | _, _ => none
      | _, _, _, _ => none
    | _ => none
  | _ => none
theorem block_ent : EntOK Try.prog 13 eBlock := by
  refine ⟨⟨_, Try.func13, by kernel_rfl, by kernel_rfl⟩, fun args G base res hr ha ρ D N M w hG hin hfr => ?_⟩
  unfold eBlock at hr
  split at hr
  · rename_i id b
    split at hr
    · rename_i k ty bid rest hb
      split at hr
      · rename_i bb ks bs hbb hks hbs hagg
        split at hr
        · rename_i l hl hlen
          rw [Bool.and_eq_true] at hlen
          have hk := Nat.eq_of_beq_eq_true hlen.1
          have hs := Nat.eq_of_beq_eq_true hlen.2
          simp only [Option.some.injEq] at hr
          subst hr
          have ha : l = sbox := ha
          subst ha
          obtain ⟨ρc, hρc⟩ : ∃ ρc : Nat → Loc, ρc = fun i => if i = 0 then ⟨(ρ bid).a, widths bb.c⟩ else ⟨(ρ id).a, widths (.p bid 0 :: rest)⟩ := ⟨_, rfl⟩
          have h0 : ρc 0 = ⟨(ρ bid).a, widths bb.c⟩ := by rw [hρc]; rfl
          have h1 : ρc 1 = ⟨(ρ id).a, widths (.p bid 0 :: rest)⟩ := by rw [hρc]; rfl
          have hH : HR ρc (· < 2) w.heap.size [] (look (bHp (g2 ks))) w := by
            refine hr_ros hG fun i b' hb' => ?_
            unfold bHp at hb'
            rw [look_cons, look_cons] at hb'
            by_cases hi : 0 = i
            · subst hi
              rw [if_pos rfl] at hb'
              injection hb' with hb'
              subst hb'
              exact ⟨rfl, by omega, fun s hs => (by simp at hs; subst hs; trivial), bid, bb, hbb, h0, by rw [intsOf_spec ρ _ _ hl, segsVals_one]; rfl⟩
            · rw [if_neg hi] at hb'
              by_cases hi1 : 1 = i
              · subst hi1
                rw [if_pos rfl] at hb'
                injection hb' with hb'
                subst hb'
                refine ⟨rfl, by omega, fun s hs => ?_, id, _, hb, h1, ?_⟩
                · simp only [List.mem_cons, List.not_mem_nil, or_false] at hs
                  rcases hs with rfl | rfl
                  · exact (show (0 : Nat) < 2 by omega)
                  · trivial
                · show segsVals ρc [.p 0 0, .arr .u8 (keyL 240 (g2 ks))] = segsVals ρ (.p bid 0 :: rest)
                  rw [segsVals_cons, segsVals_one, segsVals_cons, intsOf_spec ρ _ _ hks, keyL_g2 hk]
                  simp only [Seg.vals, Seg.conc, h0]
              · rw [if_neg hi1] at hb'
                cases hb'
          obtain ⟨c, hc⟩ : ∃ c, Try.f13.body = some c := Option.isSome_iff_exists.1 (by kernel_rfl)
          have hcall := reach_val tyT_ok Try.func13 hc (avs := bArgs (g2 bs)) (.inr rfl) (b_reach (g2 ks) (g2 bs) hc) (v := .av (.one (.arr .u8 (encL ks bs)))) (by kernel_rfl) (by kernel_rfl) (by kernel_rfl) (fun s hs => by
            simp only [bArgs, List.mem_cons, List.not_mem_nil, or_false] at hs
            rcases hs with rfl | rfl
            · exact fun s hs => (by simp [AV.segs] at hs; subst hs; exact (show (1 : Nat) < 2 by omega))
            · exact fun s hs => (by simp [AV.segs] at hs; subst hs; trivial)) hH ρ
          have e : (bArgs (g2 bs)).map (SV.conc ρc) = [SV.conc ρ (.av (.one (.p id 0))), SV.conc ρ (.av b)] := by
            have e1 : SV.conc ρ (.av b) = .agg (bs.map (Value.int .u8)).toArray := by rw [conc_av, aggB_conc ρ hagg, intsOf_spec ρ _ _ hbs]
            rw [e1]
            simp only [bArgs, List.map_cons, List.map_nil, SV.conc, AV.conc, Seg.conc, h1, keyL_g2 hs]
          rw [e] at hcall
          exact ent_val hcall hG rfl rfl rfl
        · cases hr
      · cases hr
    · cases hr
  · cases hr
end Go.Proofs.Ytkoackalpcmhaaa.Am
/- The cipher: Next. Conditions: none. -/
namespace Go.Proofs.Ytkoackalpcmhaaa.Am
set_option linter.unusedVariables false
set_option linter.unusedSimpArgs false
open Go Go.RowKit
variable [GT]

omit [GT] in
noncomputable def xTodo : List AI := match Try.f16.body with
  | some c => todoOf (arun tyT [] noH [] 1000 [.code c] (start [.av (.one (.arr .u8 (keyL 16 fun _ => 0)))] 21 [] 0 []))
  | none => []
omit [GT] in
noncomputable def xX : Code := loopOf xTodo
omit [GT] in
noncomputable def xK : List AI := restOf xTodo
omit [GT] in
def xS (bf : Nat → Int) (i : Nat) : St := { tm := tmL 21 [(1, .av (.one (.p 0 0))), (2, .av (.one (.p 1 0))), (5, ofV (.int .i64 i))], hp := [(0, ⟨0, 23, [.arr .u8 (keyL 16 bf)]⟩), (1, ⟨0, 23, [.arr .u8 (List.replicate 16 0)]⟩)], nx := 2, gl := [] }
omit [GT] in
def inc (z : Int) : Int := IntKind.u8.wrap (z + 1)
omit [GT] in
def incAt (bf : Nat → Int) (i j : Nat) : Int := if j = 15 - i then inc (bf j) else bf j
omit [GT] in
def xEnd (bf : Nat → Int) : St := { tm := tmL 21 [(2, .av (.one (.p 0 0)))], hp := [(0, ⟨0, 23, [.arr .u8 (keyL 16 bf)]⟩)], nx := 1, gl := [] }
omit [GT] in
def isA (x b : Bool) : Prop := ∀ ρ : Nat → Loc, (ofV (.bool x)).conc ρ = (ofV (.bool b)).conc ρ
theorem x_start (bf : Nat → Int) {c : Code} (hc : Try.f16.body = some c) : runN tyT [] noH [] 1000 2 [] [1, 2, 5] [.code c] (start [.av (.one (.arr .u8 (keyL 16 bf)))] 21 [] 0 []) = some (.code (.loop xX) :: xK, xS bf 0, []) := by
  have : ∀ d, Try.f16.body = d → (match d with | some c => runN tyT [] noH [] 1000 2 [] [1, 2, 5] [.code c] (start [.av (.one (.arr .u8 (keyL 16 bf)))] 21 [] 0 []) | none => none) = some (.code (.loop xX) :: xK, xS bf 0, []) := by
    intro d hd
    subst hd
    kernel_rfl
  exact this _ hc
theorem x_go0 (bf : Nat → Int) (n : Nat) : runN tyT [] (atH 6 3 (isB false) noH) [] 1000 2 [] [1, 2, 5] (.code xX :: .hd n xX :: xK) (xS bf 0) = some (.hd n xX :: xK, xS (incAt bf 0) 1, [isA (inc (bf 15) != 0) false]) := by
  kernel_rfl
theorem x_stop0 (bf : Nat → Int) (n : Nat) : runN tyT [] (atH 6 3 (isB true) noH) [] 1000 0 [1] [2] (.code xX :: .hd n xX :: xK) (xS bf 0) = some ([.fin], xEnd (incAt bf 0), [isA (inc (bf 15) != 0) true]) := by
  kernel_rfl
theorem x_go1 (bf : Nat → Int) (n : Nat) : runN tyT [] (atH 6 3 (isB false) noH) [] 1000 2 [] [1, 2, 5] (.code xX :: .hd n xX :: xK) (xS bf 1) = some (.hd n xX :: xK, xS (incAt bf 1) 2, [isA (inc (bf 14) != 0) false]) := by
  kernel_rfl
theorem x_stop1 (bf : Nat → Int) (n : Nat) : runN tyT [] (atH 6 3 (isB true) noH) [] 1000 0 [1] [2] (.code xX :: .hd n xX :: xK) (xS bf 1) = some ([.fin], xEnd (incAt bf 1), [isA (inc (bf 14) != 0) true]) := by
  kernel_rfl
theorem x_go2 (bf : Nat → Int) (n : Nat) : runN tyT [] (atH 6 3 (isB false) noH) [] 1000 2 [] [1, 2, 5] (.code xX :: .hd n xX :: xK) (xS bf 2) = some (.hd n xX :: xK, xS (incAt bf 2) 3, [isA (inc (bf 13) != 0) false]) := by
  kernel_rfl
theorem x_stop2 (bf : Nat → Int) (n : Nat) : runN tyT [] (atH 6 3 (isB true) noH) [] 1000 0 [1] [2] (.code xX :: .hd n xX :: xK) (xS bf 2) = some ([.fin], xEnd (incAt bf 2), [isA (inc (bf 13) != 0) true]) := by
  kernel_rfl
theorem x_go3 (bf : Nat → Int) (n : Nat) : runN tyT [] (atH 6 3 (isB false) noH) [] 1000 2 [] [1, 2, 5] (.code xX :: .hd n xX :: xK) (xS bf 3) = some (.hd n xX :: xK, xS (incAt bf 3) 4, [isA (inc (bf 12) != 0) false]) := by
  kernel_rfl
theorem x_stop3 (bf : Nat → Int) (n : Nat) : runN tyT [] (atH 6 3 (isB true) noH) [] 1000 0 [1] [2] (.code xX :: .hd n xX :: xK) (xS bf 3) = some ([.fin], xEnd (incAt bf 3), [isA (inc (bf 12) != 0) true]) := by
  kernel_rfl
theorem x_go4 (bf : Nat → Int) (n : Nat) : runN tyT [] (atH 6 3 (isB false) noH) [] 1000 2 [] [1, 2, 5] (.code xX :: .hd n xX :: xK) (xS bf 4) = some (.hd n xX :: xK, xS (incAt bf 4) 5, [isA (inc (bf 11) != 0) false]) := by
  kernel_rfl
theorem x_stop4 (bf : Nat → Int) (n : Nat) : runN tyT [] (atH 6 3 (isB true) noH) [] 1000 0 [1] [2] (.code xX :: .hd n xX :: xK) (xS bf 4) = some ([.fin], xEnd (incAt bf 4), [isA (inc (bf 11) != 0) true]) := by
  kernel_rfl
theorem x_go5 (bf : Nat → Int) (n : Nat) : runN tyT [] (atH 6 3 (isB false) noH) [] 1000 2 [] [1, 2, 5] (.code xX :: .hd n xX :: xK) (xS bf 5) = some (.hd n xX :: xK, xS (incAt bf 5) 6, [isA (inc (bf 10) != 0) false]) := by
  kernel_rfl
theorem x_stop5 (bf : Nat → Int) (n : Nat) : runN tyT [] (atH 6 3 (isB true) noH) [] 1000 0 [1] [2] (.code xX :: .hd n xX :: xK) (xS bf 5) = some ([.fin], xEnd (incAt bf 5), [isA (inc (bf 10) != 0) true]) := by
  kernel_rfl
theorem x_go6 (bf : Nat → Int) (n : Nat) : runN tyT [] (atH 6 3 (isB false) noH) [] 1000 2 [] [1, 2, 5] (.code xX :: .hd n xX :: xK) (xS bf 6) = some (.hd n xX :: xK, xS (incAt bf 6) 7, [isA (inc (bf 9) != 0) false]) := by
  kernel_rfl
theorem x_stop6 (bf : Nat → Int) (n : Nat) : runN tyT [] (atH 6 3 (isB true) noH) [] 1000 0 [1] [2] (.code xX :: .hd n xX :: xK) (xS bf 6) = some ([.fin], xEnd (incAt bf 6), [isA (inc (bf 9) != 0) true]) := by
  kernel_rfl
theorem x_go7 (bf : Nat → Int) (n : Nat) : runN tyT [] (atH 6 3 (isB false) noH) [] 1000 2 [] [1, 2, 5] (.code xX :: .hd n xX :: xK) (xS bf 7) = some (.hd n xX :: xK, xS (incAt bf 7) 8, [isA (inc (bf 8) != 0) false]) := by
  kernel_rfl
theorem x_stop7 (bf : Nat → Int) (n : Nat) : runN tyT [] (atH 6 3 (isB true) noH) [] 1000 0 [1] [2] (.code xX :: .hd n xX :: xK) (xS bf 7) = some ([.fin], xEnd (incAt bf 7), [isA (inc (bf 8) != 0) true]) := by
  kernel_rfl
theorem x_go8 (bf : Nat → Int) (n : Nat) : runN tyT [] (atH 6 3 (isB false) noH) [] 1000 2 [] [1, 2, 5] (.code xX :: .hd n xX :: xK) (xS bf 8) = some (.hd n xX :: xK, xS (incAt bf 8) 9, [isA (inc (bf 7) != 0) false]) := by
  kernel_rfl
theorem x_stop8 (bf : Nat → Int) (n : Nat) : runN tyT [] (atH 6 3 (isB true) noH) [] 1000 0 [1] [2] (.code xX :: .hd n xX :: xK) (xS bf 8) = some ([.fin], xEnd (incAt bf 8), [isA (inc (bf 7) != 0) true]) := by
  kernel_rfl
theorem x_go9 (bf : Nat → Int) (n : Nat) : runN tyT [] (atH 6 3 (isB false) noH) [] 1000 2 [] [1, 2, 5] (.code xX :: .hd n xX :: xK) (xS bf 9) = some (.hd n xX :: xK, xS (incAt bf 9) 10, [isA (inc (bf 6) != 0) false]) := by
  kernel_rfl
theorem x_stop9 (bf : Nat → Int) (n : Nat) : runN tyT [] (atH 6 3 (isB true) noH) [] 1000 0 [1] [2] (.code xX :: .hd n xX :: xK) (xS bf 9) = some ([.fin], xEnd (incAt bf 9), [isA (inc (bf 6) != 0) true]) := by
  kernel_rfl
theorem x_go10 (bf : Nat → Int) (n : Nat) : runN tyT [] (atH 6 3 (isB false) noH) [] 1000 2 [] [1, 2, 5] (.code xX :: .hd n xX :: xK) (xS bf 10) = some (.hd n xX :: xK, xS (incAt bf 10) 11, [isA (inc (bf 5) != 0) false]) := by
  kernel_rfl
theorem x_stop10 (bf : Nat → Int) (n : Nat) : runN tyT [] (atH 6 3 (isB true) noH) [] 1000 0 [1] [2] (.code xX :: .hd n xX :: xK) (xS bf 10) = some ([.fin], xEnd (incAt bf 10), [isA (inc (bf 5) != 0) true]) := by
  kernel_rfl
theorem x_go11 (bf : Nat → Int) (n : Nat) : runN tyT [] (atH 6 3 (isB false) noH) [] 1000 2 [] [1, 2, 5] (.code xX :: .hd n xX :: xK) (xS bf 11) = some (.hd n xX :: xK, xS (incAt bf 11) 12, [isA (inc (bf 4) != 0) false]) := by
  kernel_rfl
theorem x_stop11 (bf : Nat → Int) (n : Nat) : runN tyT [] (atH 6 3 (isB true) noH) [] 1000 0 [1] [2] (.code xX :: .hd n xX :: xK) (xS bf 11) = some ([.fin], xEnd (incAt bf 11), [isA (inc (bf 4) != 0) true]) := by
  kernel_rfl
theorem x_go12 (bf : Nat → Int) (n : Nat) : runN tyT [] (atH 6 3 (isB false) noH) [] 1000 2 [] [1, 2, 5] (.code xX :: .hd n xX :: xK) (xS bf 12) = some (.hd n xX :: xK, xS (incAt bf 12) 13, [isA (inc (bf 3) != 0) false]) := by
  kernel_rfl
theorem x_stop12 (bf : Nat → Int) (n : Nat) : runN tyT [] (atH 6 3 (isB true) noH) [] 1000 0 [1] [2] (.code xX :: .hd n xX :: xK) (xS bf 12) = some ([.fin], xEnd (incAt bf 12), [isA (inc (bf 3) != 0) true]) := by
  kernel_rfl
theorem x_go13 (bf : Nat → Int) (n : Nat) : runN tyT [] (atH 6 3 (isB false) noH) [] 1000 2 [] [1, 2, 5] (.code xX :: .hd n xX :: xK) (xS bf 13) = some (.hd n xX :: xK, xS (incAt bf 13) 14, [isA (inc (bf 2) != 0) false]) := by
  kernel_rfl
theorem x_stop13 (bf : Nat → Int) (n : Nat) : runN tyT [] (atH 6 3 (isB true) noH) [] 1000 0 [1] [2] (.code xX :: .hd n xX :: xK) (xS bf 13) = some ([.fin], xEnd (incAt bf 13), [isA (inc (bf 2) != 0) true]) := by
  kernel_rfl
theorem x_go14 (bf : Nat → Int) (n : Nat) : runN tyT [] (atH 6 3 (isB false) noH) [] 1000 2 [] [1, 2, 5] (.code xX :: .hd n xX :: xK) (xS bf 14) = some (.hd n xX :: xK, xS (incAt bf 14) 15, [isA (inc (bf 1) != 0) false]) := by
  kernel_rfl
theorem x_stop14 (bf : Nat → Int) (n : Nat) : runN tyT [] (atH 6 3 (isB true) noH) [] 1000 0 [1] [2] (.code xX :: .hd n xX :: xK) (xS bf 14) = some ([.fin], xEnd (incAt bf 14), [isA (inc (bf 1) != 0) true]) := by
  kernel_rfl
theorem x_go15 (bf : Nat → Int) (n : Nat) : runN tyT [] (atH 6 3 (isB false) noH) [] 1000 2 [] [1, 2, 5] (.code xX :: .hd n xX :: xK) (xS bf 15) = some (.hd n xX :: xK, xS (incAt bf 15) 16, [isA (inc (bf 0) != 0) false]) := by
  kernel_rfl
theorem x_stop15 (bf : Nat → Int) (n : Nat) : runN tyT [] (atH 6 3 (isB true) noH) [] 1000 0 [1] [2] (.code xX :: .hd n xX :: xK) (xS bf 15) = some ([.fin], xEnd (incAt bf 15), [isA (inc (bf 0) != 0) true]) := by
  kernel_rfl
theorem x_end (bf : Nat → Int) (n : Nat) : runN tyT [] noH [] 1000 0 [1] [2] (.code xX :: .hd n xX :: xK) (xS bf 16) = some ([.fin], xEnd bf, []) := by
  kernel_rfl
theorem nil_ok : OOK Try.prog [] := ook_of (l := []) trivial
theorem x_go (bf : Nat → Int) (n : Nat) : ∀ i, i < 16 → (inc (bf (15 - i)) != 0) = false → Reaches Try.prog 0 (.hd (n + 1) xX :: xK) (xS bf i) (.hd n xX :: xK) (xS (incAt bf i) (i + 1))
  | 0, _, h => Reaches.round (reach_run tyT_ok nil_ok mixed_ (x_go0 bf n) ⟨fun ρ => by rw [show (inc (bf 15) != 0) = false from h], trivial⟩ rfl)
  | 1, _, h => Reaches.round (reach_run tyT_ok nil_ok mixed_ (x_go1 bf n) ⟨fun ρ => by rw [show (inc (bf 14) != 0) = false from h], trivial⟩ rfl)
  | 2, _, h => Reaches.round (reach_run tyT_ok nil_ok mixed_ (x_go2 bf n) ⟨fun ρ => by rw [show (inc (bf 13) != 0) = false from h], trivial⟩ rfl)
  | 3, _, h => Reaches.round (reach_run tyT_ok nil_ok mixed_ (x_go3 bf n) ⟨fun ρ => by rw [show (inc (bf 12) != 0) = false from h], trivial⟩ rfl)
  | 4, _, h => Reaches.round (reach_run tyT_ok nil_ok mixed_ (x_go4 bf n) ⟨fun ρ => by rw [show (inc (bf 11) != 0) = false from h], trivial⟩ rfl)
  | 5, _, h => Reaches.round (reach_run tyT_ok nil_ok mixed_ (x_go5 bf n) ⟨fun ρ => by rw [show (inc (bf 10) != 0) = false from h], trivial⟩ rfl)
  | 6, _, h => Reaches.round (reach_run tyT_ok nil_ok mixed_ (x_go6 bf n) ⟨fun ρ => by rw [show (inc (bf 9) != 0) = false from h], trivial⟩ rfl)
  | 7, _, h => Reaches.round (reach_run tyT_ok nil_ok mixed_ (x_go7 bf n) ⟨fun ρ => by rw [show (inc (bf 8) != 0) = false from h], trivial⟩ rfl)
  | 8, _, h => Reaches.round (reach_run tyT_ok nil_ok mixed_ (x_go8 bf n) ⟨fun ρ => by rw [show (inc (bf 7) != 0) = false from h], trivial⟩ rfl)
  | 9, _, h => Reaches.round (reach_run tyT_ok nil_ok mixed_ (x_go9 bf n) ⟨fun ρ => by rw [show (inc (bf 6) != 0) = false from h], trivial⟩ rfl)
  | 10, _, h => Reaches.round (reach_run tyT_ok nil_ok mixed_ (x_go10 bf n) ⟨fun ρ => by rw [show (inc (bf 5) != 0) = false from h], trivial⟩ rfl)
  | 11, _, h => Reaches.round (reach_run tyT_ok nil_ok mixed_ (x_go11 bf n) ⟨fun ρ => by rw [show (inc (bf 4) != 0) = false from h], trivial⟩ rfl)
  | 12, _, h => Reaches.round (reach_run tyT_ok nil_ok mixed_ (x_go12 bf n) ⟨fun ρ => by rw [show (inc (bf 3) != 0) = false from h], trivial⟩ rfl)
  | 13, _, h => Reaches.round (reach_run tyT_ok nil_ok mixed_ (x_go13 bf n) ⟨fun ρ => by rw [show (inc (bf 2) != 0) = false from h], trivial⟩ rfl)
  | 14, _, h => Reaches.round (reach_run tyT_ok nil_ok mixed_ (x_go14 bf n) ⟨fun ρ => by rw [show (inc (bf 1) != 0) = false from h], trivial⟩ rfl)
  | 15, _, h => Reaches.round (reach_run tyT_ok nil_ok mixed_ (x_go15 bf n) ⟨fun ρ => by rw [show (inc (bf 0) != 0) = false from h], trivial⟩ rfl)
  | i + 16, h, _ => by omega
theorem x_stop (bf : Nat → Int) (n : Nat) : ∀ i, i < 16 → (inc (bf (15 - i)) != 0) = true → Reaches Try.prog 0 (.hd (n + 1) xX :: xK) (xS bf i) [.fin] (xEnd (incAt bf i))
  | 0, _, h => Reaches.round (reach_run tyT_ok nil_ok mixed_ (x_stop0 bf n) ⟨fun ρ => by rw [show (inc (bf 15) != 0) = true from h], trivial⟩ rfl)
  | 1, _, h => Reaches.round (reach_run tyT_ok nil_ok mixed_ (x_stop1 bf n) ⟨fun ρ => by rw [show (inc (bf 14) != 0) = true from h], trivial⟩ rfl)
  | 2, _, h => Reaches.round (reach_run tyT_ok nil_ok mixed_ (x_stop2 bf n) ⟨fun ρ => by rw [show (inc (bf 13) != 0) = true from h], trivial⟩ rfl)
  | 3, _, h => Reaches.round (reach_run tyT_ok nil_ok mixed_ (x_stop3 bf n) ⟨fun ρ => by rw [show (inc (bf 12) != 0) = true from h], trivial⟩ rfl)
  | 4, _, h => Reaches.round (reach_run tyT_ok nil_ok mixed_ (x_stop4 bf n) ⟨fun ρ => by rw [show (inc (bf 11) != 0) = true from h], trivial⟩ rfl)
  | 5, _, h => Reaches.round (reach_run tyT_ok nil_ok mixed_ (x_stop5 bf n) ⟨fun ρ => by rw [show (inc (bf 10) != 0) = true from h], trivial⟩ rfl)
  | 6, _, h => Reaches.round (reach_run tyT_ok nil_ok mixed_ (x_stop6 bf n) ⟨fun ρ => by rw [show (inc (bf 9) != 0) = true from h], trivial⟩ rfl)
  | 7, _, h => Reaches.round (reach_run tyT_ok nil_ok mixed_ (x_stop7 bf n) ⟨fun ρ => by rw [show (inc (bf 8) != 0) = true from h], trivial⟩ rfl)
  | 8, _, h => Reaches.round (reach_run tyT_ok nil_ok mixed_ (x_stop8 bf n) ⟨fun ρ => by rw [show (inc (bf 7) != 0) = true from h], trivial⟩ rfl)
  | 9, _, h => Reaches.round (reach_run tyT_ok nil_ok mixed_ (x_stop9 bf n) ⟨fun ρ => by rw [show (inc (bf 6) != 0) = true from h], trivial⟩ rfl)
  | 10, _, h => Reaches.round (reach_run tyT_ok nil_ok mixed_ (x_stop10 bf n) ⟨fun ρ => by rw [show (inc (bf 5) != 0) = true from h], trivial⟩ rfl)
  | 11, _, h => Reaches.round (reach_run tyT_ok nil_ok mixed_ (x_stop11 bf n) ⟨fun ρ => by rw [show (inc (bf 4) != 0) = true from h], trivial⟩ rfl)
  | 12, _, h => Reaches.round (reach_run tyT_ok nil_ok mixed_ (x_stop12 bf n) ⟨fun ρ => by rw [show (inc (bf 3) != 0) = true from h], trivial⟩ rfl)
  | 13, _, h => Reaches.round (reach_run tyT_ok nil_ok mixed_ (x_stop13 bf n) ⟨fun ρ => by rw [show (inc (bf 2) != 0) = true from h], trivial⟩ rfl)
  | 14, _, h => Reaches.round (reach_run tyT_ok nil_ok mixed_ (x_stop14 bf n) ⟨fun ρ => by rw [show (inc (bf 1) != 0) = true from h], trivial⟩ rfl)
  | 15, _, h => Reaches.round (reach_run tyT_ok nil_ok mixed_ (x_stop15 bf n) ⟨fun ρ => by rw [show (inc (bf 0) != 0) = true from h], trivial⟩ rfl)
  | i + 16, h, _ => by omega
omit [GT] in
/-- One more, from byte 15 - i on. -/
def nextG : Nat → Nat → (Nat → Int) → (Nat → Int)
  | 0, _, bf => bf
  | n + 1, i, bf => if (inc (bf (15 - i)) != 0) = true then incAt bf i else nextG n (i + 1) (incAt bf i)
theorem x_rounds : ∀ (n i : Nat) (bf : Nat → Int), n + i = 16 → Reaches Try.prog 0 (.hd (n + 1) xX :: xK) (xS bf i) [.fin] (xEnd (nextG n i bf))
  | 0, i, bf, h => by
    have : i = 16 := by omega
    subst this
    exact Reaches.round (reach_run tyT_ok nil_ok mixed_ (x_end bf 0) trivial rfl)
  | n + 1, i, bf, h => by
    unfold nextG
    cases hc : (inc (bf (15 - i)) != 0) with
    | true => rw [if_pos rfl]; exact x_stop bf (n + 1) i (by omega) hc
    | false =>
      rw [if_neg (by decide)]
      exact (x_go bf (n + 1) i (by omega) hc).trans (x_rounds n (i + 1) (incAt bf i) (by omega))
theorem x_reach (bf : Nat → Int) {c : Code} (hc : Try.f16.body = some c) : Reaches Try.prog 0 [.code c] (start [.av (.one (.arr .u8 (keyL 16 bf)))] 21 [] 0 []) [.fin] (xEnd (nextG 16 0 bf)) :=
  (reach_run tyT_ok nil_ok mixed_ (x_start bf hc) trivial rfl).trans (Reaches.loop 17 (x_rounds 16 0 bf rfl))
omit [GT] in
def nextL (bs : List Int) : List Int := keyL 16 (nextG 16 0 (g2 bs))
omit [GT] in
/-- A function of 16 bytes to 16 bytes. -/
def e16 (F : List Int → List Int) : Ent := fun args _ _ => match args with
  | [.av b] => match intsOf .u8 b.segs, aggB b with
    | some bs, true => match Nat.beq bs.length 16 with
      | true => some { val := .av (.one (.arr .u8 (F bs))) }
      | false => none
    | _, _ => none
  | _ => none
theorem ok_e16 {f : FuncId} {fn : Func} {F : List Int → List Int} (hf : Try.prog.funcs[f]? = some fn) (h2 : (fn.name == "runtime.NumGoroutine") = false) (h3 : fn.body.isSome = true) (h : ∀ (bs : List Int), bs.length = 16 → ∀ (ρ : Nat → Loc) (w : World), GWok w.heap.size [] w → Calls Try.prog f ([SV.av (.one (.arr .u8 bs))].map (SV.conc ρ)).toArray w fun e w' => e = .returned (SV.conc ρ (.av (.one (.arr .u8 (F bs))))) ∧ Below w.heap.size w w') : EntOK Try.prog f (e16 F) := by
  refine ⟨⟨fn, hf, h2, h3⟩, fun args G base res hr ha ρ D N M w hG hin hfr => ?_⟩
  unfold e16 at hr
  split at hr
  · rename_i b
    split at hr
    · rename_i bs hbs hagg
      split at hr
      · rename_i hl
        simp only [Option.some.injEq] at hr
        subst hr
        have := h bs (Nat.eq_of_beq_eq_true hl) ρ w hG.gwc
        have e1 : SV.conc ρ (.av b) = SV.conc ρ (.av (.one (.arr .u8 bs))) := by
          rw [conc_av, aggB_conc ρ hagg, intsOf_spec ρ _ _ hbs]
          rfl
        simp only [List.map_cons, List.map_nil] at this ⊢
        rw [e1]
        exact ent_val this hG rfl rfl rfl
      · cases hr
    · cases hr
  · cases hr
theorem hr_none {w : World} (hgw : GWok w.heap.size [] w) : HR (fun _ => ⟨none, 0⟩) (· < 0) w.heap.size [] (look []) w := ⟨Nat.le_refl _, fun _ _ h => (by cases h), fun _ _ _ h => (by cases h), fun _ _ _ h => (by cases h), fun _ _ _ _ _ _ h => (by cases h), hgw⟩
theorem next_ent : EntOK Try.prog 16 (e16 nextL) := by
  refine ok_e16 Try.func16 (by kernel_rfl) (by kernel_rfl) fun bs hl ρ w hgw => ?_
  obtain ⟨c, hc⟩ : ∃ c, Try.f16.body = some c := Option.isSome_iff_exists.1 (by kernel_rfl)
  have := reach_val tyT_ok Try.func16 hc (avs := [.av (.one (.arr .u8 (keyL 16 (g2 bs))))]) (.inr rfl) (x_reach (g2 bs) hc) (v := .av (.one (.arr .u8 (nextL bs)))) (by kernel_rfl) (by kernel_rfl) (by kernel_rfl) (fun s hs => by
    simp only [List.mem_cons, List.not_mem_nil, or_false] at hs
    subst hs
    exact fun s hs => (by simp [AV.segs] at hs; subst hs; trivial)) (hr_none hgw) ρ
  rw [keyL_g2 hl] at this
  exact this
end Go.Proofs.Ytkoackalpcmhaaa.Am
/- The abstract machine: loops by their names; runs of functions; contracts by arguments' values. Conditions: none. -/
namespace Go.Proofs.Ytkoackalpcmhaaa.Am
set_option linter.unusedVariables false
set_option linter.unusedSimpArgs false
open Go Go.RowKit

/-! ### Loops, found by their first region -/
def findL (r : Nat) : Code → List AI → List Nat → Option (Code × List AI)
  | .seq a b, k, ns => match findL r a (.code b :: k) ns with
    | some x => some x
    | none => findL r b k ns
  | .block id x, k, ns => findL r x (.blk id :: k) ns
  | .loop x, k, ns => match Nat.beq (firstReg x) r with
    | true => some (x, k)
    | false => findL r x (.hd (ns.headD 0) x :: k) ns.tail
  | .cond _ x y, k, ns => match findL r x k ns with
    | some z => some z
    | none => findL r y k ns
  | _, _, _ => none
def loopAt (fn : Func) (r : Nat) (ns : List Nat) : Code × List AI := match fn.body with
  | some c => (findL r c [] ns).getD (.skip, [])
  | none => (.skip, [])
/-- At a loop's head, with so many rounds left. -/
def hdAt (fn : Func) (r : Nat) (ns : List Nat) (n : Nat) : List AI := .hd n (loopAt fn r ns).1 :: (loopAt fn r ns).2
/-- At a round's beginning. -/
def inAt (fn : Func) (r : Nat) (ns : List Nat) (n : Nat) : List AI := .code (loopAt fn r ns).1 :: .hd n (loopAt fn r ns).1 :: (loopAt fn r ns).2
/-- Ahead of a loop. -/
def toAt (fn : Func) (r : Nat) (ns : List Nat) : List AI := .code (.loop (loopAt fn r ns).1) :: (loopAt fn r ns).2

/-! ### What is leaned on, in plain words -/
def tB (x b : Bool) : Prop := ∀ ρ : Nat → Loc, (ofV (.bool x)).conc ρ = (ofV (.bool b)).conc ρ
def tI (k : IntKind) (x y : Int) : Prop := ∀ ρ : Nat → Loc, (ofV (.int k x)).conc ρ = (ofV (.int k y)).conc ρ
theorem tB_iff {x b : Bool} : tB x b ↔ x = b := by
  constructor
  · intro h
    have := h fun _ => ⟨none, 0⟩
    simp only [ofV, SV.conc, AV.conc, Seg.conc] at this
    injection this
  · intro h ρ
    rw [h]
theorem tI_iff {k : IntKind} {x y : Int} : tI k x y ↔ x = y := by
  constructor
  · intro h
    have := h fun _ => ⟨none, 0⟩
    simp only [ofV, SV.conc, AV.conc, Seg.conc] at this
    injection this
  · intro h ρ
    rw [h]
theorem w64 {z : Int} (h : -9223372036854775808 ≤ z) (h' : z < 9223372036854775808) : IntKind.i64.wrap z = z := by
  simp [IntKind.wrap, IntKind.bits, IntKind.signed]
  omega
theorem w8 {z : Int} (h : 0 ≤ z) (h' : z < 256) : IntKind.u8.wrap z = z := by
  simp [IntKind.wrap, IntKind.bits, IntKind.signed]
  omega
theorem tI_64 {z : Int} : tI .i64 (IntKind.i64.wrap z) z ↔ -9223372036854775808 ≤ z ∧ z < 9223372036854775808 := by
  rw [tI_iff]
  constructor
  · intro h
    simp [IntKind.wrap, IntKind.bits, IntKind.signed] at h
    omega
  · intro h
    exact w64 h.1 h.2
theorem tB_lt {a b : Int} : tB (decide (a < b)) true ↔ a < b := by rw [tB_iff, decide_eq_true_iff]
theorem tB_nlt {a b : Int} : tB (decide (a < b)) false ↔ b ≤ a := by rw [tB_iff, decide_eq_false_iff_not, Int.not_lt]
theorem tB_le {a b : Int} : tB (decide (a ≤ b)) true ↔ a ≤ b := by rw [tB_iff, decide_eq_true_iff]
theorem tB_nle {a b : Int} : tB (decide (a ≤ b)) false ↔ b < a := by rw [tB_iff, decide_eq_false_iff_not, Int.not_le]
theorem tB_gt {a b : Int} : tB (decide (a > b)) true ↔ b < a := tB_lt
theorem tB_ngt {a b : Int} : tB (decide (a > b)) false ↔ a ≤ b := tB_nlt
theorem tB_ge {a b : Int} : tB (decide (a ≥ b)) true ↔ b ≤ a := tB_le
theorem tB_nge {a b : Int} : tB (decide (a ≥ b)) false ↔ a < b := tB_nle
theorem tB_eq {a b : Int} : tB (a == b) true ↔ a = b := by rw [tB_iff, beq_iff_eq]
theorem tB_neq {a b : Int} : tB (a == b) false ↔ a ≠ b := by rw [tB_iff, beq_eq_false_iff_ne]
theorem tB_ne {a b : Int} : tB (a != b) true ↔ a ≠ b := by rw [tB_iff, bne_iff_ne]
theorem tB_nne {a b : Int} : tB (a != b) false ↔ a = b := by rw [tB_iff, bne_eq_false_iff_eq]
theorem allP_nil : AllP [] ↔ True := Iff.rfl
theorem allP_cons {p : Prop} {l : List Prop} : AllP (p :: l) ↔ p ∧ AllP l := Iff.rfl
/-- A hint that tells an integer. -/
def isI (k : IntKind) (z : Int) : Hint := { is := some (ofV (.int k z)) }

section
variable {P : Program} {T : List (Nat × Ty)} {O : List (Nat × Ent)}
variable [GT]

/-! ### Runs from a function's beginning -/
def From (P : Program) (fn : Func) (avs : List SV) (hp : List (Nat × Blk)) (nx : Nat) (gl : List (Nat × Nat)) (todo : List AI) (s : St) : Prop :=
  ∃ c, fn.body = some c ∧ Reaches P 0 [.code c] (start avs fn.ntmps hp nx gl) todo s
omit [GT] in
def runF (T : List (Nat × Ty)) (O : List (Nat × Ent)) (H : Nat → Nat → Hint) (LH : List (Nat × Nat)) (m : Nat) (es ks : List Nat) (fn : Func) (avs : List SV) (hp : List (Nat × Blk)) (nx : Nat) (gl : List (Nat × Nat)) : Option (List AI × St × List Prop) :=
  match fn.body with
  | some c => runN T O H LH 100000 m es ks [.code c] (start avs fn.ntmps hp nx gl)
  | none => none
theorem From.run (hT : TOK P T) (hO : OOK P O) (hmx : P.follows .mixedOrders = true) {H : Nat → Nat → Hint} {LH : List (Nat × Nat)} {m : Nat} {es ks : List Nat} {fn : Func} {avs : List SV} {hp : List (Nat × Blk)} {nx : Nat} {gl : List (Nat × Nat)} {todo' : List AI} {s' : St} {ps : List Prop} (h : runF T O H LH m es ks fn avs hp nx gl = some (todo', s', ps)) (hps : AllP ps) : From P fn avs hp nx gl todo' s' := by
  unfold runF at h
  split at h
  · rename_i c hc
    exact ⟨c, hc, reach_run hT hO hmx h hps (Nat.ble_eq_true_of_le (Nat.zero_le _))⟩
  · cases h
theorem From.trans {fn : Func} {avs : List SV} {hp : List (Nat × Blk)} {nx : Nat} {gl : List (Nat × Nat)} {todo todo' : List AI} {s s' : St} (h : From P fn avs hp nx gl todo s) (k : Reaches P 0 todo s todo' s') : From P fn avs hp nx gl todo' s' :=
  let ⟨c, hc, hr⟩ := h
  ⟨c, hc, hr.trans k⟩
theorem Reaches.rounds {fn : Func} {r : Nat} {ns : List Nat} {s u : St} {c : List AI} (n : Nat) (h : Reaches P 0 (hdAt fn r ns n) s c u) : Reaches P 0 (toAt fn r ns) s c u := Reaches.loop n h
theorem Reaches.one {fn : Func} {r : Nat} {ns : List Nat} {n : Nat} {s u : St} {c : List AI} (h : Reaches P 0 (inAt fn r ns n) s c u) : Reaches P 0 (hdAt fn r ns (n + 1)) s c u := Reaches.round h
/-- A run from somewhere. -/
theorem Reaches.run (hT : TOK P T) (hO : OOK P O) (hmx : P.follows .mixedOrders = true) {H : Nat → Nat → Hint} {LH : List (Nat × Nat)} {fuel m : Nat} {es ks : List Nat} {todo todo' : List AI} {s s' : St} {ps : List Prop} (h : runN T O H LH fuel m es ks todo s = some (todo', s', ps)) (hps : AllP ps) : Reaches P 0 todo s todo' s' := reach_run hT hO hmx h hps (Nat.ble_eq_true_of_le (Nat.zero_le _))

/-! ### A nil slice is an empty row -/
omit [GT] in
def isNilAt (s : St) (t : Nat) : Bool := match s.get t with
  | some (.av (.one (.v (.slice none 0 0)))) => true
  | _ => false
omit [GT] in
def adoptSt (e : TypeId) (k : IntKind) (t : Nat) (s : St) : St :=
  { tm := setNth (some (.av (.one (.r s.nx 0 0 0)))) s.tm t, hp := (s.nx, ⟨1, e, [.arr k []]⟩) :: s.hp, nx := s.nx + 1, gl := s.gl }
theorem Reaches.adopt {m0 : Nat} {todo : List AI} {s : St} {t : Nat} (e : TypeId) (k : IntKind) (h : isNilAt s t = true) : Reaches P m0 todo s todo (adoptSt e k t s) := by
  intro B N M w0 hl hR ρ a w hr
  have hx : s.get t = some (ofV (.slice none 0 0)) := by
    unfold isNilAt at h
    split at h
    · assumption
    · cases h
  have hv := (hr.rel.slots t _ hx).1
  have hag : ∀ i, i < s.nx → up ρ s.nx ⟨none, 0⟩ i = ρ i := fun i hi => up_agree (D := (· < s.nx)) (by omega) i hi
  refine hR (up ρ s.nx ⟨none, 0⟩) a w ⟨⟨fun u sv hu => ?_, fun x id hx => ?_, ?_, hr.rel.kept, hr.rel.defers⟩, ?_⟩
  · unfold adoptSt St.get at hu
    simp only [nth_set] at hu
    by_cases htu : t = u
    · subst htu
      rw [if_pos rfl] at hu
      split at hu
      · rename_i v hv'
        injection hu with hu
        subst hu
        split at hv'
        · injection hv' with hv'
          injection hv' with hv'
          subst hv'
          refine ⟨?_, fun s hs => ?_⟩
          · rw [hv]
            simp [ofV, SV.conc, AV.conc, Seg.conc, up_self, radr]
          · simp only [AV.segs, List.mem_cons, List.not_mem_nil, or_false] at hs
            subst hs
            show s.nx < s.nx + 1
            omega
        · cases hv'
      · cases hu
    · rw [if_neg htu] at hu
      obtain ⟨h1, h2⟩ := hr.rel.slots u sv hu
      exact ⟨by rw [SV.conc_congr hag h2]; exact h1, h2.mono fun i hi => Nat.lt_succ_of_lt hi⟩
  · obtain ⟨h1, h2⟩ := hr.rel.globals x id hx
    exact ⟨by rw [hag id h2]; exact h1, Nat.lt_succ_of_lt h2⟩
  · have ha : ∀ i, look ((s.nx, (⟨1, e, [.arr k []]⟩ : Blk)) :: s.hp) i = if s.nx = i then some ⟨1, e, [.arr k []]⟩ else look s.hp i := fun i => look_cons _ _ _ _
    refine hr.rel.hr.step (U := fun i => i = s.nx) hag (fun i hi => Nat.lt_succ_of_lt hi) (Kept.refl _ _ _) (fun i b hb hU => ?_) (fun i b x hb hU hx => rfl) (fun i b hb hU => ?_) (fun i b x hb hU hx => ?_) (fun i b x hb hU hk hx => ?_) (fun i j bi bj x y hi hj hij hU hk hx hy => ?_)
    · rw [show (adoptSt e k t s).hp = (s.nx, (⟨1, e, [.arr k []]⟩ : Blk)) :: s.hp from rfl, ha, if_neg (fun h => hU h.symm)] at hb
      exact hb
    · subst hU
      rw [show (adoptSt e k t s).hp = (s.nx, (⟨1, e, [.arr k []]⟩ : Blk)) :: s.hp from rfl, ha, if_pos rfl] at hb
      injection hb with hb
      subst hb
      refine ⟨Nat.lt_succ_self _, fun x hx => (by simp at hx; subst hx; trivial), ?_⟩
      show w.ownsRow 0 e 1 _ _ _
      rw [up_self]
      exact ⟨(Nat.mul_one _).symm, .inl ⟨rfl, rfl⟩⟩
    · subst hU
      rw [up_self] at hx
      cases hx
    · subst hU
      rw [up_self] at hx
      cases hx
    · rcases hU with rfl | rfl
      · rw [up_self] at hx; cases hx
      · rw [up_self] at hy; cases hy
  · rw [hr.size]
    exact (setNth_len _ _ _).symm
end
end Go.Proofs.Ytkoackalpcmhaaa.Am
/- The abstract machine: contracts by what the arguments read as. Conditions: none. -/
namespace Go.Proofs.Ytkoackalpcmhaaa.Am
set_option linter.unusedVariables false
set_option linter.unusedSimpArgs false
open Go Go.RowKit

/-- An argument, by what it reads as: an integer, a truth, a slice of integers, an array of integers. -/
inductive CA where
  | i (k : IntKind) (z : Int)
  | b (x : Bool)
  | sl (k : IntKind) (l : List Int)
  | ag (k : IntKind) (l : List Int)
inductive Sh where
  | i (k : IntKind) | b | sl (k : IntKind) | ag (k : IntKind)
def canA : List CA → Nat → List SV
  | [], _ => []
  | .i k z :: l, n => ofV (.int k z) :: canA l n
  | .b x :: l, n => ofV (.bool x) :: canA l n
  | .sl _ zs :: l, n => .av (.one (.r n 0 zs.length 0)) :: canA l (n + 1)
  | .ag k zs :: l, n => .av (.one (.arr k zs)) :: canA l n
def canH : List CA → Nat → List (Nat × Blk)
  | [], _ => []
  | .sl k zs :: l, n => (n, ⟨2, 0, [.arr k zs]⟩) :: canH l (n + 1)
  | _ :: l, n => canH l n
def cntA : List CA → Nat
  | [] => 0
  | .sl _ _ :: l => cntA l + 1
  | _ :: l => cntA l
def cutI (zs : List Int) (off len : Nat) : List Int := (match off with
  | 0 => zs
  | n + 1 => zs.drop (n + 1)).take len
theorem cutI_eq (zs : List Int) (off len : Nat) : cutI zs off len = (zs.drop off).take len := by
  unfold cutI
  cases off <;> rfl
theorem cutI_all (zs : List Int) : cutI zs 0 zs.length = zs := by simp [cutI]
def readA (G : Nat → Option Blk) : Sh → SV → Option (CA × Asm)
  | .i k, .av (.one (.v (.int j z))) => match Nat.beq (ik j) (ik k) with
    | true => some (.i k z, .tt)
    | false => none
  | .b, .av (.one (.v (.bool x))) => some (.b x, .tt)
  | .sl k, .av (.one (.v (.slice none 0 0))) => some (.sl k [], .tt)
  | .sl k, .av (.one (.s id off len cap)) => match G id with
    | some b => match intsOf k b.c with
      | some zs => some (.sl k (cutI zs off len), .say (off + len ≤ zs.length ∧ len ≤ cap))
      | none => none
    | none => none
  | .sl k, .av (.one (.r id off len _)) => match G id with
    | some b => match intsOf k b.c, Nat.ble 1 b.k with
      | some zs, true => some (.sl k (cutI zs off len), .say (off + len ≤ zs.length))
      | _, _ => none
    | none => none
  | .ag k, .av a => match intsOf k a.segs, aggB a with
    | some zs, true => some (.ag k zs, .tt)
    | _, _ => none
  | _, _ => none
def readAs (G : Nat → Option Blk) : List Sh → List SV → Option (List CA × Asm)
  | [], [] => some ([], .tt)
  | s :: l, x :: m => match readA G s x, readAs G l m with
    | some (c, p), some (cs, q) => some (c :: cs, p.and q)
    | _, _ => none
  | _, _ => none

section
variable {P : Program} {T : List (Nat × Ty)} {ρ : Nat → Loc} {D : Nat → Prop} {N : Nat} {M : List Nat} {G : Nat → Option Blk} {base : Nat} {w : World}
variable [GT]

omit [GT] in
/-- What a row to be read needs of its place. -/
def RowAt (w : World) (l : Loc) (k : IntKind) (zs : List Int) : Prop :=
  zs.length ≤ l.cap ∧ (zs = [] ∨ ∃ x, l.a = some x ∧ ∀ j u, (zs.map (Value.int k))[j]? = some u → w.cell? (x.add j) = some u) ∧ ∀ x, l.a = some x → x.block < w.heap.size
theorem row_part (hG : HR ρ D N M G w) {id : Nat} {b : Blk} (hb : G id = some b) {k : IntKind} {zs : List Int} (hz : intsOf k b.c = some zs) {off len : Nat} (hl : off + len ≤ zs.length) : (cutI zs off len).length = len ∧ (cutI zs off len = [] ∨ ∃ x, (ρ id).a = some x ∧ ∀ j u, ((cutI zs off len).map (Value.int k))[j]? = some u → w.cell? ((x.add off).add j) = some u) := by
  have hv := intsOf_spec ρ _ _ hz
  rw [cutI_eq]
  have hlen : ((zs.drop off).take len).length = len := by rw [List.length_take, List.length_drop]; omega
  refine ⟨hlen, ?_⟩
  by_cases h0 : len = 0
  · left
    rw [h0, List.take_zero]
  right
  have hcell : ∀ j, j < len → ∃ x, (ρ id).a = some x ∧ w.cell? (x.add (off + j)) = some (.int k (zs.getD (off + j) 0)) := fun j hj => by
    refine (hG.blk id b hb).2.2.cells ?_
    rw [hv, List.getElem?_map, List.getElem?_eq_getElem (by omega)]
    simp [List.getD_eq_getElem?_getD, List.getElem?_eq_getElem (show off + j < zs.length by omega)]
  obtain ⟨x, hx, _⟩ := hcell 0 (by omega)
  refine ⟨x, hx, fun j u hj => ?_⟩
  have hjl : j < len := by
    rcases Nat.lt_or_ge j len with h | h
    · exact h
    · rw [List.getElem?_eq_none (by rw [List.length_map, hlen]; exact h)] at hj; cases hj
  rw [List.getElem?_map, List.getElem?_take, if_pos hjl, List.getElem?_drop, List.getElem?_eq_getElem (by omega)] at hj
  simp only [Option.map_some, Option.some.injEq] at hj
  subst hj
  obtain ⟨y, hy, hc⟩ := hcell j hjl
  rw [hx] at hy
  injection hy with hy
  subst hy
  rw [add_add, hc, List.getD_eq_getElem?_getD, List.getElem?_eq_getElem (by omega)]
  rfl
theorem canon (hG : HR ρ D N M G w) : ∀ (shs : List Sh) (svs : List SV) (cas : List CA) (p : Asm) (n : Nat), readAs G shs svs = some (cas, p) → p.holds → cas.length = shs.length ∧ ∃ ls : List Loc, ls.length = cntA cas ∧ ∀ ρc : Nat → Loc, (∀ (j : Nat) (l : Loc), ls[j]? = some l → ρc (n + j) = l) →
    (canA cas n).map (SV.conc ρc) = svs.map (SV.conc ρ) ∧ ∀ i b, look (canH cas n) i = some b → n ≤ i ∧ i < n + cntA cas ∧ ∃ k zs, b = ⟨2, 0, [.arr k zs]⟩ ∧ RowAt w (ρc i) k zs
  | [], [], cas, p, n, h, _ => by
    simp only [readAs, Option.some.injEq, Prod.mk.injEq] at h
    obtain ⟨rfl, rfl⟩ := h
    exact ⟨rfl, [], rfl, fun ρc _ => ⟨rfl, fun i b hb => by cases hb⟩⟩
  | [], _ :: _, _, _, _, h, _ => by cases h
  | _ :: _, [], _, _, _, h, _ => by cases h
  | s :: l, x :: m, cas, p, n, h, hp => by
    unfold readAs at h
    split at h
    · rename_i c p1 cs q h1 h2
      simp only [Option.some.injEq, Prod.mk.injEq] at h
      obtain ⟨rfl, rfl⟩ := h
      have row : ∀ (k : IntKind) (zs : List Int) (lc : Loc), c = .sl k zs → RowAt w lc k zs → (∀ ρc : Nat → Loc, ρc n = lc → SV.conc ρc (.av (.one (.r n 0 zs.length 0))) = x.conc ρ) → (c :: cs).length = (s :: l).length ∧ ∃ ls : List Loc, ls.length = cntA (c :: cs) ∧ ∀ ρc : Nat → Loc, (∀ (j : Nat) (l : Loc), ls[j]? = some l → ρc (n + j) = l) →
          (canA (c :: cs) n).map (SV.conc ρc) = (x :: m).map (SV.conc ρ) ∧ ∀ i b, look (canH (c :: cs) n) i = some b → n ≤ i ∧ i < n + cntA (c :: cs) ∧ ∃ k zs, b = ⟨2, 0, [.arr k zs]⟩ ∧ RowAt w (ρc i) k zs := by
        intro k zs lc hc hrow hx
        subst hc
        obtain ⟨hlen, ls, hls, h3⟩ := canon hG l m cs q (n + 1) h2 hp.2
        refine ⟨by simp [hlen], lc :: ls, by simp [cntA, hls], fun ρc hρ => ?_⟩
        have h0 : ρc n = lc := hρ 0 lc rfl
        obtain ⟨h4, h5⟩ := h3 ρc fun j lj hj => by
          have := hρ (j + 1) lj (by simpa using hj)
          rw [show n + 1 + j = n + (j + 1) by omega]
          exact this
        refine ⟨by simp only [canA, List.map_cons, h4, hx ρc h0], fun i b hb => ?_⟩
        simp only [canH, look_cons] at hb
        by_cases hi : n = i
        · subst hi
          rw [if_pos rfl] at hb
          injection hb with hb
          subst hb
          exact ⟨Nat.le_refl _, by simp only [cntA]; omega, k, zs, rfl, by rw [h0]; exact hrow⟩
        · rw [if_neg hi] at hb
          obtain ⟨h6, h7, h8⟩ := h5 i b hb
          exact ⟨by omega, by simp only [cntA]; omega, h8⟩
      have plain : cntA (c :: cs) = cntA cs → (∀ k, canH (c :: cs) k = canH cs k) → (∃ y, (∀ k, canA (c :: cs) k = y :: canA cs k) ∧ ∀ ρc : Nat → Loc, y.conc ρc = x.conc ρ) → (c :: cs).length = (s :: l).length ∧ ∃ ls : List Loc, ls.length = cntA (c :: cs) ∧ ∀ ρc : Nat → Loc, (∀ (j : Nat) (l : Loc), ls[j]? = some l → ρc (n + j) = l) →
          (canA (c :: cs) n).map (SV.conc ρc) = (x :: m).map (SV.conc ρ) ∧ ∀ i b, look (canH (c :: cs) n) i = some b → n ≤ i ∧ i < n + cntA (c :: cs) ∧ ∃ k zs, b = ⟨2, 0, [.arr k zs]⟩ ∧ RowAt w (ρc i) k zs := by
        intro e1 e2 ⟨y, e3, hy⟩
        obtain ⟨hlen, ls, hls, h3⟩ := canon hG l m cs q n h2 hp.2
        refine ⟨by simp [hlen], ls, by rw [e1, hls], fun ρc hρ => ?_⟩
        obtain ⟨h4, h5⟩ := h3 ρc hρ
        refine ⟨by rw [e3, List.map_cons, List.map_cons, h4, hy], fun i b hb => ?_⟩
        rw [e2] at hb
        rw [e1]
        exact h5 i b hb
      have hp1 := hp.1
      unfold readA at h1
      split at h1
      · split at h1
        · rename_i k j z hk
          simp only [Option.some.injEq, Prod.mk.injEq] at h1
          obtain ⟨rfl, rfl⟩ := h1
          have := ik_inj hk
          subst this
          exact plain rfl (fun _ => rfl) ⟨_, fun _ => rfl, fun _ => rfl⟩
        · cases h1
      · simp only [Option.some.injEq, Prod.mk.injEq] at h1
        obtain ⟨rfl, rfl⟩ := h1
        exact plain rfl (fun _ => rfl) ⟨_, fun _ => rfl, fun _ => rfl⟩
      · rename_i k
        simp only [Option.some.injEq, Prod.mk.injEq] at h1
        obtain ⟨rfl, rfl⟩ := h1
        exact row k [] ⟨none, 0⟩ rfl ⟨Nat.le_refl _, .inl rfl, fun x hx => by cases hx⟩ fun ρc h0 => by simp [SV.conc, AV.conc, Seg.conc, h0, radr]
      · rename_i k id off len cap
        split at h1
        · rename_i b hb
          split at h1
          · rename_i zs hz
            simp only [Option.some.injEq, Prod.mk.injEq] at h1
            obtain ⟨rfl, rfl⟩ := h1
            obtain ⟨hl1, hl2⟩ : off + len ≤ zs.length ∧ len ≤ cap := hp1
            obtain ⟨e1, e2⟩ := row_part hG hb hz hl1
            refine row k _ ⟨(ρ id).a.map (·.add off), cap⟩ rfl ⟨by rw [e1]; exact hl2, e2.imp (fun h => h) fun ⟨x, hx, h⟩ => ⟨x.add off, by simp [hx], h⟩, fun x hx => ?_⟩ fun ρc h0 => ?_
            · simp only [Option.map_eq_some_iff] at hx
              obtain ⟨y, hy, rfl⟩ := hx
              have := hG.lt id b y hb hy
              have e : (y.add off).block = y.block := by unfold Addr.add; split <;> rfl
              rw [e]; exact this
            · simp only [SV.conc, AV.conc, Seg.conc, h0, radr, e1]
              cases (ρ id).a <;> simp [Addr.add]
          · cases h1
        · cases h1
      · rename_i k id off len ad
        split at h1
        · rename_i b hb
          split at h1
          · rename_i zs hz hk
            simp only [Option.some.injEq, Prod.mk.injEq] at h1
            obtain ⟨rfl, rfl⟩ := h1
            have hl1 : off + len ≤ zs.length := hp1
            obtain ⟨e1, e2⟩ := row_part hG hb hz hl1
            have hcap : zs.length ≤ (ρ id).cap := by
              have := ((hG.blk id b hb).2.2.ro (.inr (Nat.le_of_ble_eq_true hk))).1
              rw [intsOf_spec ρ _ _ hz, List.length_map] at this
              exact this
            refine row k _ ⟨radr (ρ id) off ad, (ρ id).cap - off⟩ rfl ⟨by rw [e1]; simp only; omega, ?_, fun x hx => ?_⟩ fun ρc h0 => ?_
            · rcases e2 with h | ⟨x, hx, h⟩
              · exact .inl h
              · by_cases h0 : len = 0
                · exact .inl (List.eq_nil_of_length_eq_zero (by rw [e1, h0]))
                · exact .inr ⟨x.add off, by simp only [radr, hx, Option.map_some]; rw [if_neg (by omega)], h⟩
            · simp only [radr, Option.map_eq_some_iff] at hx
              obtain ⟨y, hy, rfl⟩ := hx
              have := hG.lt id b y hb hy
              have e : ∀ o, (y.add o).block = y.block := fun o => by unfold Addr.add; split <;> rfl
              rw [e]; exact this
            · simp only [SV.conc, AV.conc, Seg.conc, h0, e1]
              congr 1
              unfold radr
              simp only
              cases (ρ id).a <;> simp [Addr.add]
          · cases h1
        · cases h1
      · split at h1
        · rename_i k a zs hz hagg
          simp only [Option.some.injEq, Prod.mk.injEq] at h1
          obtain ⟨rfl, rfl⟩ := h1
          refine plain rfl (fun _ => rfl) ⟨_, fun _ => rfl, fun ρc => ?_⟩
          rw [conc_av, conc_av, aggB_conc ρ hagg, intsOf_spec ρ _ _ hz]
          rfl
        · cases h1
      · cases h1
    · cases h
omit [GT] in
theorem canA_in : ∀ (cas : List CA) (n : Nat), ∀ s ∈ canA cas n, s.In (· < n + cntA cas)
  | [], n, s, h => by cases h
  | .i k z :: l, n, s, h => by
    rcases List.mem_cons.1 h with rfl | h
    · exact fun s hs => by simp [AV.segs] at hs; subst hs; trivial
    · exact canA_in l n s h
  | .b x :: l, n, s, h => by
    rcases List.mem_cons.1 h with rfl | h
    · exact fun s hs => by simp [AV.segs] at hs; subst hs; trivial
    · exact canA_in l n s h
  | .ag k zs :: l, n, s, h => by
    rcases List.mem_cons.1 h with rfl | h
    · exact fun s hs => by simp [AV.segs] at hs; subst hs; trivial
    · exact canA_in l n s h
  | .sl k zs :: l, n, s, h => by
    rcases List.mem_cons.1 h with rfl | h
    · refine fun s hs => ?_
      simp [AV.segs] at hs
      subst hs
      show n < n + (cntA l + 1)
      omega
    · exact (canA_in l (n + 1) s h).mono fun i hi => by
        show i < n + (cntA l + 1)
        have : i < n + 1 + cntA l := hi
        omega
omit [GT] in
theorem canA_len : ∀ (cas : List CA) (n : Nat), (canA cas n).length = cas.length
  | [], _ => rfl
  | .i _ _ :: l, n => by simp [canA, canA_len l]
  | .b _ :: l, n => by simp [canA, canA_len l]
  | .sl _ _ :: l, n => by simp [canA, canA_len l]
  | .ag _ _ :: l, n => by simp [canA, canA_len l]
/-- A package's variable that a contract reads: its number, and what it holds. -/
abbrev GV := Nat × IntKind × List Int
omit [GT] in
def gH : List GV → Nat → List (Nat × Blk)
  | [], _ => []
  | (_, k, l) :: gs, n => (n, ⟨2, 0, [.arr k l]⟩) :: gH gs (n + 1)
omit [GT] in
def gL : List GV → Nat → List (Nat × Nat)
  | [], _ => []
  | (g, _, _) :: gs, n => (g, n) :: gL gs (n + 1)
omit [GT] in
theorem look_app {α : Type} (n : Nat) : ∀ (l m : List (Nat × α)), look (l ++ m) n = (look l n).or (look m n)
  | [], m => by simp [look]
  | (k, x) :: l, m => by
    rw [List.cons_append, look_cons, look_cons, look_app n l m]
    split <;> rfl
omit [GT] in
theorem gH_spec : ∀ (gs : List GV) (n i : Nat) (b : Blk), look (gH gs n) i = some b → n ≤ i ∧ i < n + gs.length ∧ ∃ x, gs[i - n]? = some x ∧ b = ⟨2, 0, [.arr x.2.1 x.2.2]⟩
  | [], n, i, b, h => by cases h
  | (g, k, l) :: gs, n, i, b, h => by
    simp only [gH, look_cons] at h
    by_cases hi : n = i
    · subst hi
      rw [if_pos rfl] at h
      injection h with h
      subst h
      exact ⟨Nat.le_refl _, by simp, (g, k, l), by simp, rfl⟩
    · rw [if_neg hi] at h
      obtain ⟨h1, h2, x, hx, hb⟩ := gH_spec gs (n + 1) i b h
      refine ⟨by omega, by simp only [List.length_cons]; omega, x, ?_, hb⟩
      rw [show i - n = (i - (n + 1)) + 1 by omega, List.getElem?_cons_succ]
      exact hx
omit [GT] in
theorem gL_spec : ∀ (gs : List GV) (n g i : Nat), look (gL gs n) g = some i → n ≤ i ∧ i < n + gs.length ∧ ∃ x, gs[i - n]? = some x ∧ x.1 = g
  | [], n, g, i, h => by cases h
  | (g0, k, l) :: gs, n, g, i, h => by
    simp only [gL, look_cons] at h
    by_cases hg : g0 = g
    · subst hg
      rw [if_pos rfl] at h
      injection h with h
      subst h
      exact ⟨Nat.le_refl _, by simp, (g0, k, l), by simp, rfl⟩
    · rw [if_neg hg] at h
      obtain ⟨h1, h2, x, hx, hb⟩ := gL_spec gs (n + 1) g i h
      refine ⟨by omega, by simp only [List.length_cons]; omega, x, ?_, hb⟩
      rw [show i - n = (i - (n + 1)) + 1 by omega, List.getElem?_cons_succ]
      exact hx
/-- The memory that a contract's run begins with. -/
theorem can_hr {cas : List CA} {gs : List GV} (hgs : ∀ x, x ∈ gs → (x.1, x.2.2.map (Value.int x.2.1)) ∈ GT.tab) {ρc : Nat → Loc} (hgw : GWok w.heap.size [] w) (hρ : ∀ i x, gs[i]? = some x → ρc (cntA cas + i) = ⟨some ⟨x.1, 0, none⟩, x.2.2.length⟩) (h : ∀ i b, look (canH cas 0) i = some b → 0 ≤ i ∧ i < 0 + cntA cas ∧ ∃ k zs, b = ⟨2, 0, [.arr k zs]⟩ ∧ RowAt w (ρc i) k zs) : HR ρc (· < cntA cas + gs.length) w.heap.size [] (look (canH cas 0 ++ gH gs (cntA cas))) w := by
  have hall : ∀ i b, look (canH cas 0 ++ gH gs (cntA cas)) i = some b → i < cntA cas + gs.length ∧ ∃ k zs, b = ⟨2, 0, [.arr k zs]⟩ ∧ RowAt w (ρc i) k zs := fun i b hb => by
    rw [look_app] at hb
    cases h1 : look (canH cas 0) i with
    | some b' =>
      rw [h1] at hb
      simp only [Option.some_or, Option.some.injEq] at hb
      subst hb
      obtain ⟨_, h2, h3⟩ := h i b' h1
      exact ⟨by omega, h3⟩
    | none =>
      rw [h1, Option.none_or] at hb
      obtain ⟨h2, h3, x, hx, rfl⟩ := gH_spec _ _ _ _ hb
      obtain ⟨g1, g2, cs, ty, mk, g3, g4⟩ := hgw _ (hgs x (List.mem_of_getElem? hx))
      have e := hρ _ x hx
      rw [show cntA cas + (i - cntA cas) = i by omega] at e
      refine ⟨h3, x.2.1, x.2.2, rfl, by rw [e]; exact Nat.le_refl _, ?_, fun y hy => ?_⟩
      · right
        refine ⟨⟨x.1, 0, none⟩, by rw [e], fun j u hj => ?_⟩
        rw [Addr.add_lit]
        simp only at g3 g4
        rw [← g4] at hj
        simp only [World.cell?, g3, Nat.zero_add]
        simpa using hj
      · rw [e] at hy
        injection hy with hy
        subst hy
        exact g1
  refine ⟨Nat.le_refl _, fun i b hb => ?_, fun i b x hb hx => ?_, fun i b x hb hk hx => ?_, fun i j bi bj x y hi hj hij hk hx hy => ?_, hgw⟩
  · obtain ⟨h2, k, zs, rfl, h3, h4, _⟩ := hall i b hb
    refine ⟨h2, fun s hs => (by simp at hs; subst hs; trivial), ?_⟩
    show (segsVals _ _).length ≤ _ ∧ _
    rw [segsVals_one]
    refine ⟨by simpa [Seg.vals] using h3, ?_⟩
    rcases h4 with rfl | h4
    · exact .inl rfl
    · exact .inr h4
  · obtain ⟨_, k, zs, rfl, _, _, h5⟩ := hall i b hb
    exact h5 x hx
  · obtain ⟨_, k, zs, rfl, _⟩ := hall i b hb
    simp at hk
  · obtain ⟨_, k, zs, rfl, _⟩ := hall i bi hi
    simp at hk

/-! ### Names, twice -/
omit [GT] in
theorem Seg.ren_ren (f g : Nat → Nat) (s : Seg) : (s.ren g).ren f = s.ren fun e => f (g e) := by cases s <;> rfl
omit [GT] in
theorem renL_ren (f g : Nat → Nat) (l : List Seg) : renL f (renL g l) = renL (fun e => f (g e)) l := by
  rw [renL_map, renL_map, renL_map, List.map_map]
  exact List.map_congr_left fun s _ => Seg.ren_ren f g s
omit [GT] in
theorem AV.ren_ren (f g : Nat → Nat) (a : AV) : (a.ren g).ren f = a.ren fun e => f (g e) := by
  cases a with
  | one s => simp [AV.ren, Seg.ren_ren]
  | agg l => simp [AV.ren, renL_ren]
omit [GT] in
theorem SV.ren_ren (f g : Nat → Nat) (s : SV) : (s.ren g).ren f = s.ren fun e => f (g e) := by
  cases s with
  | av a => simp [SV.ren, AV.ren_ren]
  | tup l =>
    simp only [SV.ren, renT_map, List.map_map]
    congr 1
    exact List.map_congr_left fun a _ => AV.ren_ren f g a
omit [GT] in
theorem newOf_ren (hp : List (Nat × Blk)) (f g : Nat → Nat) : ∀ es : List Nat, newOf hp (fun e => f (g e)) es = (newOf hp g es).map fun b => ⟨b.k, b.ty, renL f b.c⟩
  | [] => rfl
  | e :: l => by
    unfold newOf
    split
    · simp [newOf_ren hp f g l, renL_ren]
    · exact newOf_ren hp f g l

/-! ### Contracts -/
structure CR where
  pre : Prop := True
  val : SV
  new : List Blk := []
omit [GT] in
def entC (sh : List Sh) (F : List CA → Option CR) : Ent := fun args G base => match readAs G sh args with
  | some (cas, p) => match F cas with
    | some r => some { val := r.val.ren (fun e => base + e), new := r.new.map fun b => ⟨b.k, b.ty, renL (fun e => base + e) b.c⟩, asm := p.and (.say r.pre) }
    | none => none
  | none => none
omit [GT] in
def endB (st : St) (v : SV) (es : List Nat) : Bool := v.allB (expB 0 es fun _ => false) && (es.all (esB 0 st.hp (expB 0 es fun _ => false)) && nodupB es)
/-- A run's end, as a contract tells it. -/
def Ends (P : Program) (T : List (Nat × Ty)) (gs : List GV) (fn : Func) (cas : List CA) (r : CR) : Prop :=
  ∃ todo' st v es, (todo' = [] ∨ todo' = [.fin]) ∧ From P fn (canA cas 0) (canH cas 0 ++ gH gs (cntA cas)) (cntA cas + gs.length) (gL gs (cntA cas)) todo' st ∧ resVal T st fn.results.toList = some v ∧ endB st v es = true ∧ (v.ren (fun e => idx e es), newOf st.hp (fun e => idx e es) es) = (r.val, r.new)
theorem ok_C (hT : TOK P T) {f : FuncId} {fn : Func} (hf : P.funcs[f]? = some fn) (hname : (fn.name == "runtime.NumGoroutine") = false) (hbs : fn.body.isSome = true) (gs : List GV) (hgs : ∀ x, x ∈ gs → (x.1, x.2.2.map (Value.int x.2.1)) ∈ GT.tab) {sh : List Sh} {F : List CA → Option CR} (hlen : Nat.ble sh.length fn.ntmps = true)
    (h : ∀ cas r, F cas = some r → r.pre → Ends P T gs fn cas r) : EntOK P f (entC sh F) := by
  refine ⟨⟨fn, hf, hname, hbs⟩, fun args G base res hr ha ρ D N M w hG hin hfr => ?_⟩
  unfold entC at hr
  split at hr
  · rename_i cas p hread
    split at hr
    · rename_i r hF
      simp only [Option.some.injEq] at hr
      subst hr
      obtain ⟨hap, har⟩ := ha
      have har : r.pre := har
      obtain ⟨todo', st, v, es, hfin, ⟨c, hc, hRe⟩, hv, hend, heq⟩ := h cas r hF har
      simp only [Prod.mk.injEq] at heq
      obtain ⟨hrv, hrn⟩ := heq
      obtain ⟨hcl, ls, hls, hcan⟩ := canon hG sh args cas p 0 hread hap
      obtain ⟨ρc, hρc⟩ : ∃ ρc : Nat → Loc, ρc = fun i => if i < cntA cas then ls.getD i ⟨none, 0⟩ else match gs[i - cntA cas]? with
        | some x => ⟨some ⟨x.1, 0, none⟩, x.2.2.length⟩
        | none => ⟨none, 0⟩ := ⟨_, rfl⟩
      obtain ⟨h4, h5⟩ := hcan ρc fun j l hj => by
        have hjl := (List.getElem?_eq_some_iff.1 hj).1
        rw [hρc, Nat.zero_add]
        simp only
        rw [if_pos (by omega), List.getD_eq_getElem?_getD, hj]; rfl
      have hρg : ∀ i x, gs[i]? = some x → ρc (cntA cas + i) = ⟨some ⟨x.1, 0, none⟩, x.2.2.length⟩ := fun i x hx => by
        rw [hρc]
        simp only
        rw [if_neg (by omega), show cntA cas + i - cntA cas = i by omega, hx]
      unfold endB at hend
      rw [Bool.and_eq_true, Bool.and_eq_true] at hend
      have hl : es.length = r.new.length := by
        rw [← hrn]
        refine ((newOf_spec (hp := st.hp) (τ := fun e => idx e es) (es := es) fun e he => ?_).1).symm
        have := List.all_eq_true.1 hend.2.1 e he
        unfold esB at this
        split at this
        · rename_i b hb; exact ⟨b, hb⟩
        · cases this
      have hcall := reach_newG (D := D) (N := N) (M := M) (G := G) (base := base) (ρ := ρ) hT hf hc (avs := canA cas 0) hfin hRe hv hend.1 hend.2.1 hend.2.2 (by rw [canA_len, hcl]; exact hlen) (fun s hs => by
        refine (canA_in cas 0 s hs).mono fun i hi => ?_
        have : i < 0 + cntA cas := hi
        show i < cntA cas + gs.length
        omega) (can_hr hgs (hG.gw.call hG.size fun g hg => by cases hg) hρg h5) (fun g id hg => by
        obtain ⟨g1, g2, x, hx, rfl⟩ := gL_spec _ _ _ _ hg
        have := hρg _ x hx
        rw [show cntA cas + (id - cntA cas) = id by omega] at this
        exact ⟨by rw [this], g2⟩) hG (fun id h1 h2 => hfr id h1 (by simp only [List.length_map]; omega)) (r := { val := r.val.ren (fun e => base + e), new := r.new.map fun b => ⟨b.k, b.ty, renL (fun e => base + e) b.c⟩, asm := p.and (.say r.pre) }) (by
          rw [← hrv, ← hrn, SV.ren_ren, ← newOf_ren])
      rw [h4] at hcall
      exact hcall
    · cases hr
  · cases hr

end
end Go.Proofs.Ytkoackalpcmhaaa.Am
/- The cipher's stream: the walk. Conditions: none. -/
namespace Go.Proofs.Ytkoackalpcmhaaa.Am
set_option linter.unusedVariables false
set_option linter.unusedSimpArgs false
open Go Go.RowKit
set_option linter.unusedSectionVars false
variable [GT]

/-- n blocks of the stream. -/
def strm (ks : List Int) : Nat → List Int → List Int
  | 0, _ => []
  | n + 1, b => encL ks b ++ strm ks n (nextL b)
theorem encL_len (ks b : List Int) : (encL ks b).length = 16 := keyL_len _ _
theorem strm_len (ks : List Int) : ∀ (n : Nat) (b : List Int), (strm ks n b).length = 16 * n
  | 0, _ => rfl
  | n + 1, b => by
    unfold strm
    rw [List.length_append, encL_len, strm_len ks n]
    omega
def stArgs (bf : Nat → Int) (z : Int) : List SV := [.av (.one (.p 1 0)), .av (.one (.arr .u8 (keyL 16 bf))), ofV (.int .i64 z)]
noncomputable def stO : List (Nat × Ent) := [(13, eBlock), (16, e16 nextL)]
theorem stO_ok : OOK Try.prog stO := ook_of (l := [(13, eBlock), (16, e16 nextL)]) ⟨block_ent, next_ent, trivial⟩
noncomputable abbrev fSt := Try.f18
noncomputable def stS (kf bf : Nat → Int) (z : Int) : St := { tm := tmL 25 [(0, .av (.one (.p 1 0))), (2, ofV (.int .i64 z)), (4, .av (.one (.p 2 0))), (7, ofV (Value.slice none 0 0))], hp := bHp kf ++ [(2, ⟨0, 23, [.arr .u8 (keyL 16 bf)]⟩)], nx := 3, gl := [] }
noncomputable def stA (kf bf : Nat → Int) (z : Int) : St := adoptSt 5 .u8 7 (stS kf bf z)
noncomputable def stM (kf bf : Nat → Int) (z : Int) (o : List Int) (L : Nat) : St := { tm := tmL 25 [(0, .av (.one (.p 1 0))), (2, ofV (.int .i64 z)), (4, .av (.one (.p 2 0))), (7, .av (.one (.r 3 0 L 0)))], hp := bHp kf ++ [(2, ⟨0, 23, [.arr .u8 (keyL 16 bf)]⟩), (3, ⟨1, 5, [.arr .u8 o]⟩)], nx := 4, gl := [] }
noncomputable def stE (kf : Nat → Int) (n : Nat) (o : List Int) : St := { tm := tmL 25 [(6, .av (.one (.s 2 0 n n)))], hp := bHp kf ++ [(2, ⟨1, 5, [.arr .u8 o]⟩)], nx := 3, gl := [] }
def stH : Nat → Nat → Hint := atH 2 3 (isB true) (atH 5 2 symH noH)
def stH2 : Nat → Nat → Hint := atH 2 3 (isB false) (atH 6 3 symH noH)
def nxF (bf : Nat → Int) : Nat → Int := nextG 16 0 (g2 (keyL 16 bf))
theorem st_start (kf bf : Nat → Int) (z : Int) : runF tyT stO noH [] 2 [2] [0, 2, 4, 7] fSt (stArgs bf z) (bHp kf) 2 [] = some (toAt fSt 2 [], stS kf bf z, []) := by kernel_rfl
theorem st_first (kf bf : Nat → Int) (z : Int) (n : Nat) : runN tyT stO stH [] 2000 2 [2, 5] [0, 2, 4, 7] (inAt fSt 2 [] n) (stA kf bf z) = some (hdAt fSt 2 [] n, stM kf (nxF bf) z ([] ++ encL (keyL 240 kf) (keyL 16 bf)) (widths [Seg.arr IntKind.u8 []] + 16), [tB (decide (((0 : Nat) : Int) < z)) true, sbox = sbox, 0 = widths [Seg.arr IntKind.u8 []], 16 ≤ 16, (widths [Seg.arr IntKind.u8 []] + 16) * 2 ≤ 140737488355328]) := by kernel_rfl
theorem st_go (kf bf : Nat → Int) (z : Int) (o : List Int) (L n : Nat) : runN tyT stO stH [] 2000 2 [2, 5] [0, 2, 4, 7] (inAt fSt 2 [] n) (stM kf bf z o L) = some (hdAt fSt 2 [] n, stM kf (nxF bf) z (o ++ encL (keyL 240 kf) (keyL 16 bf)) (widths [Seg.arr IntKind.u8 o] + 16), [tB (decide ((L : Int) < z)) true, sbox = sbox, L = widths [Seg.arr IntKind.u8 o], 16 ≤ 16, (widths [Seg.arr IntKind.u8 o] + 16) * 2 ≤ 140737488355328]) := by kernel_rfl
theorem st_end (kf bf : Nat → Int) (z : Int) (o : List Int) (L n : Nat) : runN tyT stO stH2 [] 2000 2 [3] [6] (inAt fSt 2 [] n) (stM kf bf z o L) = some ([.fin], stE kf z.toNat o, [tB (decide ((L : Int) < z)) false, 0 + L ≤ widths [Seg.arr IntKind.u8 o], 0 ≤ z ∧ Int.toNat z ≤ widths [Seg.arr IntKind.u8 o] - 0, 0 ≤ z ∧ Int.toNat z ≤ Int.toNat z, 1 ≤ Int.toNat z]) := by kernel_rfl
theorem widths_o (o : List Int) : widths [Seg.arr IntKind.u8 o] = o.length := by simp [widths, Seg.width]
theorem st_rounds (kf : Nat → Int) (z : Int) (h1 : 1 ≤ z) (h2 : z ≤ 1000000) : ∀ (k : Nat) (bf : Nat → Int) (o : List Int), z ≤ o.length + 16 * k → (o.length : Int) + 16 * k < z + 16 → Reaches Try.prog 0 (hdAt fSt 2 [] (k + 1)) (stM kf bf z o o.length) [.fin] (stE kf z.toNat (o ++ strm (keyL 240 kf) k (keyL 16 bf)))
  | 0, bf, o, ha, hb => by
    refine Reaches.one (Reaches.run tyT_ok stO_ok mixed_ (by rw [st_end, strm, List.append_nil]) ?_)
    simp only [allP_cons, allP_nil, and_true, tB_nlt, widths_o]
    omega
  | k + 1, bf, o, ha, hb => by
    refine (Reaches.one (Reaches.run tyT_ok stO_ok mixed_ (st_go kf bf z o o.length (k + 1)) ?_)).trans ?_
    · simp only [allP_cons, allP_nil, and_true, tB_lt, widths_o, true_and]
      omega
    · have ih := st_rounds kf z h1 h2 k (nxF bf) (o ++ encL (keyL 240 kf) (keyL 16 bf)) (by rw [List.length_append, encL_len]; omega) (by rw [List.length_append, encL_len]; omega)
      rw [List.append_assoc, List.length_append, encL_len] at ih
      rw [widths_o]
      exact ih
end Go.Proofs.Ytkoackalpcmhaaa.Am
/- The cipher's stream: the contract. Conditions: none. -/
namespace Go.Proofs.Ytkoackalpcmhaaa.Am
set_option linter.unusedVariables false
set_option linter.unusedSimpArgs false
open Go Go.RowKit
set_option linter.unusedSectionVars false
section
variable {P : Program}
variable [GT]
/-! ### A nil result is an empty row -/
def adoptSs (e : TypeId) (k : IntKind) (t : Nat) (s : St) : St :=
  { tm := setNth (some (.av (.one (.s s.nx 0 0 0)))) s.tm t, hp := (s.nx, ⟨1, e, [.arr k []]⟩) :: s.hp, nx := s.nx + 1, gl := s.gl }
theorem Reaches.adoptS {m0 : Nat} {todo : List AI} {s : St} {t : Nat} (e : TypeId) (k : IntKind) (h : isNilAt s t = true) : Reaches P m0 todo s todo (adoptSs e k t s) := by
  intro B N M w0 hl hR ρ a w hr
  have hx : s.get t = some (ofV (.slice none 0 0)) := by
    unfold isNilAt at h
    split at h
    · assumption
    · cases h
  have hv := (hr.rel.slots t _ hx).1
  have hag : ∀ i, i < s.nx → up ρ s.nx ⟨none, 0⟩ i = ρ i := fun i hi => up_agree (D := (· < s.nx)) (by omega) i hi
  refine hR (up ρ s.nx ⟨none, 0⟩) a w ⟨⟨fun u sv hu => ?_, fun x id hx => ?_, ?_, hr.rel.kept, hr.rel.defers⟩, ?_⟩
  · unfold adoptSs St.get at hu
    simp only [nth_set] at hu
    by_cases htu : t = u
    · subst htu
      rw [if_pos rfl] at hu
      split at hu
      · rename_i v hv'
        injection hu with hu
        subst hu
        split at hv'
        · injection hv' with hv'
          injection hv' with hv'
          subst hv'
          refine ⟨?_, fun s hs => ?_⟩
          · rw [hv]
            simp [ofV, SV.conc, AV.conc, Seg.conc, up_self, radr]
          · simp only [AV.segs, List.mem_cons, List.not_mem_nil, or_false] at hs
            subst hs
            show s.nx < s.nx + 1
            omega
        · cases hv'
      · cases hu
    · rw [if_neg htu] at hu
      obtain ⟨h1, h2⟩ := hr.rel.slots u sv hu
      exact ⟨by rw [SV.conc_congr hag h2]; exact h1, h2.mono fun i hi => Nat.lt_succ_of_lt hi⟩
  · obtain ⟨h1, h2⟩ := hr.rel.globals x id hx
    exact ⟨by rw [hag id h2]; exact h1, Nat.lt_succ_of_lt h2⟩
  · have ha : ∀ i, look ((s.nx, (⟨1, e, [.arr k []]⟩ : Blk)) :: s.hp) i = if s.nx = i then some ⟨1, e, [.arr k []]⟩ else look s.hp i := fun i => look_cons _ _ _ _
    refine hr.rel.hr.step (U := fun i => i = s.nx) hag (fun i hi => Nat.lt_succ_of_lt hi) (Kept.refl _ _ _) (fun i b hb hU => ?_) (fun i b x hb hU hx => rfl) (fun i b hb hU => ?_) (fun i b x hb hU hx => ?_) (fun i b x hb hU hk hx => ?_) (fun i j bi bj x y hi hj hij hU hk hx hy => ?_)
    · rw [show (adoptSs e k t s).hp = (s.nx, (⟨1, e, [.arr k []]⟩ : Blk)) :: s.hp from rfl, ha, if_neg (fun h => hU h.symm)] at hb
      exact hb
    · subst hU
      rw [show (adoptSs e k t s).hp = (s.nx, (⟨1, e, [.arr k []]⟩ : Blk)) :: s.hp from rfl, ha, if_pos rfl] at hb
      injection hb with hb
      subst hb
      refine ⟨Nat.lt_succ_self _, fun x hx => (by simp at hx; subst hx; trivial), ?_⟩
      show w.ownsRow 0 e 1 _ _ _
      rw [up_self]
      exact ⟨(Nat.mul_one _).symm, .inl ⟨rfl, rfl⟩⟩
    · subst hU
      rw [up_self] at hx
      cases hx
    · subst hU
      rw [up_self] at hx
      cases hx
    · rcases hU with rfl | rfl
      · rw [up_self] at hx; cases hx
      · rw [up_self] at hy; cases hy
  · rw [hr.size]
    exact (setNth_len _ _ _).symm
end
variable [GT]
theorem st_reach (kf bf : Nat → Int) (z : Int) (h1 : 1 ≤ z) (h2 : z ≤ 1000000) : From Try.prog fSt (stArgs bf z) (bHp kf) 2 [] [.fin] (stE kf z.toNat (strm (keyL 240 kf) ((z.toNat + 15) / 16) (keyL 16 bf))) := by
  obtain ⟨k, hk⟩ : ∃ k, (z.toNat + 15) / 16 = k + 1 := ⟨(z.toNat + 15) / 16 - 1, by omega⟩
  rw [hk]
  refine (From.run tyT_ok stO_ok mixed_ (st_start kf bf z) trivial).trans ((Reaches.adopt 5 .u8 (by kernel_rfl)).trans (Reaches.rounds (k + 2) ((Reaches.one (Reaches.run tyT_ok stO_ok mixed_ (st_first kf bf z (k + 1)) ?_)).trans ?_)))
  · simp only [allP_cons, allP_nil, and_true, tB_lt, widths_o, true_and, List.length_nil]
    omega
  · have ih := st_rounds kf z h1 h2 k (nxF bf) ([] ++ encL (keyL 240 kf) (keyL 16 bf)) (by rw [List.length_append, encL_len, List.length_nil]; omega) (by rw [List.length_append, encL_len, List.length_nil]; omega)
    rw [List.append_assoc, List.length_append, encL_len] at ih
    rw [widths_o]
    exact ih
noncomputable def stZ (kf : Nat → Int) : St := { tm := tmL 25 [(6, ofV (Value.slice none 0 0))], hp := bHp kf, nx := 2, gl := [] }
theorem st_zero (kf bf : Nat → Int) (n : Nat) : runN tyT stO noH [] 2000 2 [] [6] (inAt fSt 2 [] n) (stS kf bf 0) = some ([.fin], stZ kf, []) := by kernel_rfl
theorem st_reach0 (kf bf : Nat → Int) : From Try.prog fSt (stArgs bf 0) (bHp kf) 2 [] [.fin] (adoptSs 5 .u8 6 (stZ kf)) :=
  (From.run tyT_ok stO_ok mixed_ (st_start kf bf 0) trivial).trans ((Reaches.rounds 1 (Reaches.one (Reaches.run tyT_ok stO_ok mixed_ (st_zero kf bf 0) trivial))).trans (Reaches.adoptS 5 .u8 (by kernel_rfl)))
/-- The stream's first bytes. -/
def eStream : Ent := fun args G base => match args with
  | [.av (.one (.p id 0)), .av b, .av (.one (.v (.int .i64 z)))] => match G id with
    | some ⟨_, _, .p bid 0 :: rest⟩ => match G bid, intsOf .u8 rest, intsOf .u8 b.segs, aggB b with
      | some bb, some ks, some bs, true => match intsOf .u8 bb.c, Nat.beq ks.length 240 && Nat.beq bs.length 16 with
        | some l, true => some { val := .av (.one (.s (base + 0) 0 z.toNat z.toNat)), new := [⟨1, 5, [.arr .u8 (strm ks ((z.toNat + 15) / 16) bs)]⟩], asm := .say (l = sbox ∧ 0 ≤ z ∧ z ≤ 1000000) }
        | _, _ => none
      | _, _, _, _ => none
    | _ => none
  | _ => none
theorem stream_ent : EntOK Try.prog 18 eStream := by
  refine ⟨⟨_, Try.func18, by kernel_rfl, by kernel_rfl⟩, fun args G base res hr ha ρ D N M w hG hin hfr => ?_⟩
  unfold eStream at hr
  split at hr
  · rename_i id b z
    split at hr
    · rename_i k ty bid rest hb
      split at hr
      · rename_i bb ks bs hbb hks hbs hagg
        split at hr
        · rename_i l hl hlen
          rw [Bool.and_eq_true] at hlen
          have hk := Nat.eq_of_beq_eq_true hlen.1
          have hs := Nat.eq_of_beq_eq_true hlen.2
          simp only [Option.some.injEq] at hr
          subst hr
          obtain ⟨ha, hz0, hz1⟩ : l = sbox ∧ 0 ≤ z ∧ z ≤ 1000000 := ha
          subst ha
          obtain ⟨ρc, hρc⟩ : ∃ ρc : Nat → Loc, ρc = fun i => if i = 0 then ⟨(ρ bid).a, widths bb.c⟩ else ⟨(ρ id).a, widths (.p bid 0 :: rest)⟩ := ⟨_, rfl⟩
          have h0 : ρc 0 = ⟨(ρ bid).a, widths bb.c⟩ := by rw [hρc]; rfl
          have h1 : ρc 1 = ⟨(ρ id).a, widths (.p bid 0 :: rest)⟩ := by rw [hρc]; rfl
          have hH : HR ρc (· < 2) w.heap.size [] (look (bHp (g2 ks))) w := by
            refine hr_ros hG fun i b' hb' => ?_
            unfold bHp at hb'
            rw [look_cons, look_cons] at hb'
            by_cases hi : 0 = i
            · subst hi
              rw [if_pos rfl] at hb'
              injection hb' with hb'
              subst hb'
              exact ⟨rfl, by omega, fun s hs => (by simp at hs; subst hs; trivial), bid, bb, hbb, h0, by rw [intsOf_spec ρ _ _ hl, segsVals_one]; rfl⟩
            · rw [if_neg hi] at hb'
              by_cases hi1 : 1 = i
              · subst hi1
                rw [if_pos rfl] at hb'
                injection hb' with hb'
                subst hb'
                refine ⟨rfl, by omega, fun s hs => ?_, id, _, hb, h1, ?_⟩
                · simp only [List.mem_cons, List.not_mem_nil, or_false] at hs
                  rcases hs with rfl | rfl
                  · exact (show (0 : Nat) < 2 by omega)
                  · trivial
                · show segsVals ρc [.p 0 0, .arr .u8 (keyL 240 (g2 ks))] = segsVals ρ (.p bid 0 :: rest)
                  rw [segsVals_cons, segsVals_one, segsVals_cons, intsOf_spec ρ _ _ hks, keyL_g2 hk]
                  simp only [Seg.vals, Seg.conc, h0]
              · rw [if_neg hi1] at hb'
                cases hb'
          have e : (stArgs (g2 bs) z).map (SV.conc ρc) = [SV.conc ρ (.av (.one (.p id 0))), SV.conc ρ (.av b), SV.conc ρ (.av (.one (.v (.int .i64 z))))] := by
            have e1 : SV.conc ρ (.av b) = .agg (bs.map (Value.int .u8)).toArray := by rw [conc_av, aggB_conc ρ hagg, intsOf_spec ρ _ _ hbs]
            rw [e1]
            simp only [stArgs, List.map_cons, List.map_nil, SV.conc, AV.conc, Seg.conc, h1, keyL_g2 hs, ofV]
          have hinA : ∀ s ∈ stArgs (g2 bs) z, s.In (· < 2) := fun s hs => by
            simp only [stArgs, List.mem_cons, List.not_mem_nil, or_false] at hs
            rcases hs with rfl | rfl | rfl
            · exact fun s hs => (by simp [AV.segs] at hs; subst hs; exact (show (1 : Nat) < 2 by omega))
            · exact fun s hs => (by simp [AV.segs] at hs; subst hs; trivial)
            · exact fun s hs => (by simp [AV.segs] at hs; subst hs; trivial)
          by_cases hz : z = 0
          · subst hz
            obtain ⟨c, hc, hR⟩ := st_reach0 (g2 ks) (g2 bs)
            have hcall := reach_new (D := D) (N := N) (M := M) (G := G) (base := base) (ρ := ρ) tyT_ok Try.func18 hc (.inr rfl) hR (v := .av (.one (.s 2 0 0 0))) (by kernel_rfl) (es := [2]) (by kernel_rfl) (by kernel_rfl) (by kernel_rfl) (by kernel_rfl) hinA hH hG hfr (r := { val := .av (.one (.s (base + 0) 0 0 0)), new := [⟨1, 5, [.arr .u8 []]⟩] }) (by kernel_rfl)
            rw [e] at hcall
            refine hcall.mono fun e w' ⟨v, h1, ρ', hF⟩ => ⟨v, h1, ρ', ⟨hF.agree, hF.val, hF.hr, hF.kept, hF.fresh⟩⟩
          · obtain ⟨c, hc, hR⟩ := st_reach (g2 ks) (g2 bs) z (by omega) hz1
            rw [keyL_g2 hk, keyL_g2 hs] at hR
            have hcall := reach_new (D := D) (N := N) (M := M) (G := G) (base := base) (ρ := ρ) tyT_ok Try.func18 hc (.inr rfl) hR (v := .av (.one (.s 2 0 z.toNat z.toNat))) (by kernel_rfl) (es := [2]) (by kernel_rfl) (by kernel_rfl) (by kernel_rfl) (by kernel_rfl) hinA hH hG hfr (r := { val := .av (.one (.s (base + 0) 0 z.toNat z.toNat)), new := [⟨1, 5, [.arr .u8 (strm ks ((z.toNat + 15) / 16) bs)]⟩] }) (by kernel_rfl)
            rw [e] at hcall
            refine hcall.mono fun e w' ⟨v, h1, ρ', hF⟩ => ⟨v, h1, ρ', ⟨hF.agree, hF.val, hF.hr, hF.kept, hF.fresh⟩⟩
        · cases hr
      · cases hr
    · cases hr
  · cases hr
end Go.Proofs.Ytkoackalpcmhaaa.Am
/- slices.Grow of nil. Conditions: none. -/
namespace Go.Proofs.Ytkoackalpcmhaaa.Am
set_option linter.unusedVariables false
set_option linter.unusedSimpArgs false
open Go Go.RowKit
set_option linter.unusedSectionVars false
variable [GT]
noncomputable abbrev fGr : Func := Try.f32
def grA (n : Nat) : List SV := [ofV (.slice none 0 0), ofV (.int .i64 (n : Nat))]
def grH (n : Nat) : Nat → Nat → Hint := atH 3 5 (isI .i64 0) (atH 3 6 (isI .i64 (n : Nat)) (atH 4 1 (isB true) (atH 5 5 symH (atH 5 8 { sym := true, c := some [.arr .u8 []] } noH))))
def grH0 : Nat → Nat → Hint := atH 3 5 (isI .i64 0) (atH 3 6 (isI .i64 0) (atH 4 1 (isB false) noH))
noncomputable def grE : St := { tm := tmL 27 [(4, .av (.one (.r 0 0 0 0)))], hp := [(0, ⟨1, 5, [.arr .u8 []]⟩)], nx := 1, gl := [] }
noncomputable def grE0 : St := { tm := tmL 27 [(4, ofV (Value.slice none 0 0))], hp := [], nx := 0, gl := [] }
theorem gr_run (n : Nat) : runF tyT [] (grH n) [] 0 [0] [4] fGr (grA n) [] 0 [] = some ([.fin], grE, [tI .i64 0 0, tI .i64 (IntKind.i64.wrap ((n : Int) - 0)) (n : Nat), tB (decide ((n : Int) > 0)) true, 0 ≤ (n : Int) ∧ n ≤ okSize, 1 ≤ n, n * 2 ≤ 140737488355328, 0 + n ≤ widths [Seg.arr .u8 (List.replicate n 0)], (0 : Int) ≤ 0 ∧ 0 ≤ widths [Seg.arr .u8 (List.replicate n 0)] - 0, ∀ ρ : Nat → Loc, segsVals ρ [.arr .u8 []] = (segsVals ρ [Seg.arr .u8 (List.replicate n 0)]).take 0]) := by kernel_rfl
theorem gr_run0 : runF tyT [] grH0 [] 0 [] [4] fGr (grA 0) [] 0 [] = some ([.fin], grE0, [tI .i64 0 0, tI .i64 (IntKind.i64.wrap (((0 : Nat) : Int) - 0)) 0, tB (decide ((0 : Int) > 0)) false]) := by kernel_rfl
theorem gr_reach (n : Nat) (h1 : 1 ≤ n) (h2 : n ≤ 1000000) : From Try.prog fGr (grA n) [] 0 [] [.fin] grE := by
  refine From.run tyT_ok nil_ok mixed_ (gr_run n) ⟨tI_iff.2 rfl, ?_, tB_gt.2 (by omega), ⟨by omega, by unfold okSize; omega⟩, h1, by omega, by rw [widths_o, List.length_replicate]; omega, ⟨by omega, by omega⟩, fun ρ => by rw [List.take_zero]; rfl, trivial⟩
  rw [Int.sub_zero, tI_64]
  omega
theorem gr_reach0 : From Try.prog fGr (grA 0) [] 0 [] [.fin] (adoptSt 5 .u8 4 grE0) :=
  (From.run tyT_ok nil_ok mixed_ gr_run0 ⟨tI_iff.2 rfl, by rw [tI_iff]; decide, by rw [tB_iff]; decide, trivial⟩).trans (Reaches.adopt 5 .u8 (by kernel_rfl))
def eGrow : Ent := fun args _ base => match args with
  | [.av (.one (.v (.slice none 0 0))), .av (.one (.v (.int .i64 z)))] => some { val := .av (.one (.r (base + 0) 0 0 0)), new := [⟨1, 5, [.arr .u8 []]⟩], asm := .say (0 ≤ z ∧ z ≤ 1000000) }
  | _ => none
theorem grow_ent : EntOK Try.prog 32 eGrow := by
  refine ⟨⟨_, Try.func32, by kernel_rfl, by kernel_rfl⟩, fun args G base res hr ha ρ D N M w hG hin hfr => ?_⟩
  unfold eGrow at hr
  split at hr
  · rename_i z
    simp only [Option.some.injEq] at hr
    subst hr
    obtain ⟨hz0, hz1⟩ : 0 ≤ z ∧ z ≤ 1000000 := ha
    obtain ⟨n, rfl⟩ : ∃ n : Nat, z = n := ⟨z.toNat, by omega⟩
    have hinA : ∀ s ∈ grA n, s.In (· < 0) := fun s hs => by
      simp only [grA, List.mem_cons, List.not_mem_nil, or_false] at hs
      rcases hs with rfl | rfl <;> exact fun s hs => (by simp [AV.segs] at hs; subst hs; trivial)
    by_cases hn : n = 0
    · subst hn
      obtain ⟨c, hc, hR⟩ := gr_reach0
      have hcall := reach_new (D := D) (N := N) (M := M) (G := G) (base := base) (ρ := ρ) tyT_ok Try.func32 hc (.inr rfl) hR (v := .av (.one (.r 0 0 0 0))) (by kernel_rfl) (es := [0]) (by kernel_rfl) (by kernel_rfl) (by kernel_rfl) (by kernel_rfl) hinA (hr_none hG.gwc) hG hfr (r := { val := .av (.one (.r (base + 0) 0 0 0)), new := [⟨1, 5, [.arr .u8 []]⟩] }) (by kernel_rfl)
      refine hcall.mono fun e w' ⟨v, h1, ρ', hF⟩ => ⟨v, h1, ρ', ⟨hF.agree, hF.val, hF.hr, hF.kept, hF.fresh⟩⟩
    · obtain ⟨c, hc, hR⟩ := gr_reach n (by omega) (by omega)
      have hcall := reach_new (D := D) (N := N) (M := M) (G := G) (base := base) (ρ := ρ) tyT_ok Try.func32 hc (.inr rfl) hR (v := .av (.one (.r 0 0 0 0))) (by kernel_rfl) (es := [0]) (by kernel_rfl) (by kernel_rfl) (by kernel_rfl) (by kernel_rfl) hinA (hr_none hG.gwc) hG hfr (r := { val := .av (.one (.r (base + 0) 0 0 0)), new := [⟨1, 5, [.arr .u8 []]⟩] }) (by kernel_rfl)
      refine hcall.mono fun e w' ⟨v, h1, ρ', hF⟩ => ⟨v, h1, ρ', ⟨hF.agree, hF.val, hF.hr, hF.kept, hF.fresh⟩⟩
  · cases hr
end Go.Proofs.Ytkoackalpcmhaaa.Am
/- The abstract machine: contracts by what the arguments read as, with structs behind pointers, rows of rows, and blocks that change. Conditions: none. -/
namespace Go.Proofs.Ytkoackalpcmhaaa.Am
set_option linter.unusedVariables false
set_option linter.unusedSimpArgs false
open Go Go.RowKit

/-- A cell or more of a struct, by what it reads as: as it is (no place in it); integers; a slice of integers; a pointer to integers. -/
inductive CF where
  | sg (s : Seg)
  | ag (k : IntKind) (l : List Int)
  | sl (k : IntKind) (l : List Int)
  | pi (k : IntKind) (l : List Int)
/-- An argument: as it is; integers; a slice of integers; a slice of such cells; a pointer to a struct that may change, or that is read. -/
inductive CB where
  | av (a : AV)
  | ag (k : IntKind) (l : List Int)
  | sl (k : IntKind) (l : List Int)
  | rs (cap : Nat) (fs : List CF)
  | mu (ty : TypeId) (fs : List CF)
  | rd (fs : List CF)
/-- Shapes; sw: a slice that is a whole row. -/
inductive ShF where
  | sg | ag (k : IntKind) (n : Nat) | sl (k : IntKind) | sw (k : IntKind) | pi (k : IntKind)
inductive ShB where
  | av | ag (k : IntKind) | sl (k : IntKind) | sw (k : IntKind) | rs (fs : List ShF) | mu (ty : TypeId) (fs : List ShF) | rd (fs : List ShF)

def fS : List CF → Nat → List Seg
  | [], _ => []
  | .sg s :: l, n => s :: fS l n
  | .ag k zs :: l, n => .arr k zs :: fS l n
  | .sl _ zs :: l, n => .r n 0 zs.length 0 :: fS l (n + 1)
  | .pi _ _ :: l, n => .p n 0 :: fS l (n + 1)
def fB : List CF → Nat → List (Nat × Blk)
  | [], _ => []
  | .sl k zs :: l, n => (n, ⟨2, 0, [.arr k zs]⟩) :: fB l (n + 1)
  | .pi k zs :: l, n => (n, ⟨2, 0, [.arr k zs]⟩) :: fB l (n + 1)
  | _ :: l, n => fB l n
def fN : List CF → Nat
  | [] => 0
  | .sl _ _ :: l => fN l + 1
  | .pi _ _ :: l => fN l + 1
  | _ :: l => fN l
def bA : List CB → Nat → Nat → List SV
  | [], _, _ => []
  | .av a :: l, m, n => .av a :: bA l m n
  | .ag k zs :: l, m, n => .av (.one (.arr k zs)) :: bA l m n
  | .sl _ zs :: l, m, n => .av (.one (.r n 0 zs.length 0)) :: bA l m (n + 1)
  | .rs cap fs :: l, m, n => .av (.one (.s n 0 fs.length cap)) :: bA l m (n + (1 + fN fs))
  | .mu _ fs :: l, m, n => .av (.one (.p m 0)) :: bA l (m + 1) (n + fN fs)
  | .rd fs :: l, m, n => .av (.one (.p n 0)) :: bA l m (n + (1 + fN fs))
def bH : List CB → Nat → Nat → List (Nat × Blk)
  | [], _, _ => []
  | .sl k zs :: l, m, n => (n, ⟨2, 0, [.arr k zs]⟩) :: bH l m (n + 1)
  | .rs _ fs :: l, m, n => (n, ⟨2, 0, fS fs (n + 1)⟩) :: (fB fs (n + 1) ++ bH l m (n + (1 + fN fs)))
  | .mu ty fs :: l, m, n => (m, ⟨0, ty, fS fs n⟩) :: (fB fs n ++ bH l (m + 1) (n + fN fs))
  | .rd fs :: l, m, n => (n, ⟨2, 0, fS fs (n + 1)⟩) :: (fB fs (n + 1) ++ bH l m (n + (1 + fN fs)))
  | _ :: l, m, n => bH l m n
def bM : List CB → Nat
  | [] => 0
  | .mu _ _ :: l => bM l + 1
  | _ :: l => bM l
def bR : List CB → Nat
  | [] => 0
  | .sl _ _ :: l => 1 + bR l
  | .rs _ fs :: l => 1 + fN fs + bR l
  | .mu _ fs :: l => fN fs + bR l
  | .rd fs :: l => 1 + fN fs + bR l
  | _ :: l => bR l
def bT : List CB → List TypeId
  | [] => []
  | .mu ty _ :: l => ty :: bT l
  | _ :: l => bT l

def intsO (k : IntKind) : List Seg → Option (List Int)
  | [.arr j zs] => match Nat.beq (ik j) (ik k) with
    | true => some zs
    | false => none
  | [.ap j F n] => match Nat.beq (ik j) (ik k) with
    | true => some (F n)
    | false => none
  | l => intsOf k l
def freeB (s : Seg) : Bool := match s with
  | .p _ _ => false
  | .s _ _ _ _ => false
  | .r _ _ _ _ => false
  | _ => true
def readSl (wh : Bool) (G : Nat → Option Blk) (k : IntKind) : Seg → Option (List Int × Asm)
  | .v (.slice none 0 0) => some ([], .tt)
  | .s id off len cap => match G id with
    | some b => match intsO k b.c with
      | some zs => match wh with
        | false => some (cutI zs off len, .say (off + len ≤ zs.length ∧ len ≤ cap))
        | true => match Nat.beq off 0 with
          | true => some (zs, .say (len = zs.length ∧ len ≤ cap))
          | false => none
      | none => none
    | none => none
  | .r id off len _ => match G id with
    | some b => match intsO k b.c, Nat.ble 1 b.k with
      | some zs, true => match wh with
        | false => some (cutI zs off len, .say (off + len ≤ zs.length))
        | true => match Nat.beq off 0 with
          | true => some (zs, .say (len = zs.length))
          | false => none
      | _, _ => none
    | none => none
  | _ => none
def readF (G : Nat → Option Blk) : List ShF → List Seg → Option (List CF × Asm)
  | [], c => match c with
    | [] => some ([], .tt)
    | _ => none
  | .sg :: s, c => match c with
    | x :: c' => match freeB x && segsOk [x], readF G s c' with
      | true, some (r, p) => some (.sg x :: r, p)
      | _, _ => none
    | [] => none
  | .ag k n :: s, c => match cut c n with
    | some (a, c') => match intsO k a, readF G s c' with
      | some zs, some (r, p) => some (.ag k zs :: r, p)
      | _, _ => none
    | none => none
  | .sl k :: s, c => match c with
    | x :: c' => match readSl false G k x, readF G s c' with
      | some (zs, q), some (r, p) => some (.sl k zs :: r, q.and p)
      | _, _ => none
    | [] => none
  | .sw k :: s, c => match c with
    | x :: c' => match readSl true G k x, readF G s c' with
      | some (zs, q), some (r, p) => some (.sl k zs :: r, q.and p)
      | _, _ => none
    | [] => none
  | .pi k :: s, c => match c with
    | .p id 0 :: c' => match G id with
      | some b => match intsO k b.c, readF G s c' with
        | some zs, some (r, p) => some (.pi k zs :: r, p)
        | _, _ => none
      | none => none
    | _ => none
def readB (R G : Nat → Option Blk) : ShB → SV → Option (CB × List Nat × Asm)
  | .av, .av a => match a.segs.all freeB && segsOk a.segs with
    | true => some (.av a, [], .tt)
    | false => none
  | .ag k, .av a => match intsO k a.segs, aggB a with
    | some zs, true => some (.ag k zs, [], .tt)
    | _, _ => none
  | .sl k, .av (.one x) => match readSl false R k x with
    | some (zs, p) => some (.sl k zs, [], p)
    | none => none
  | .sw k, .av (.one x) => match readSl true R k x with
    | some (zs, p) => some (.sl k zs, [], p)
    | none => none
  | .rs fs, .av (.one (.s id 0 len cap)) => match R id with
    | some b => match readF R fs b.c with
      | some (r, p) => match Nat.beq len r.length with
        | true => some (.rs cap r, [], p)
        | false => none
      | none => none
    | none => none
  | .mu ty fs, .av (.one (.p id 0)) => match G id with
    | some b => match Nat.beq b.k 0 && Nat.beq b.ty ty, readF R fs b.c with
      | true, some (r, p) => some (.mu ty r, [id], p)
      | _, _ => none
    | none => none
  | .rd fs, .av (.one (.p id 0)) => match R id with
    | some b => match readF R fs b.c with
      | some (r, p) => some (.rd r, [], p)
      | none => none
    | none => none
  | _, _ => none
def readBs (R G : Nat → Option Blk) : List ShB → List SV → Option (List CB × List Nat × Asm)
  | [], [] => some ([], [], .tt)
  | s :: l, x :: m => match readB R G s x, readBs R G l m with
    | some (c, i, p), some (cs, is, q) => some (c :: cs, i ++ is, p.and q)
    | _, _ => none
  | _, _ => none

def msOf : List ShB → List SV → List Nat
  | .mu _ _ :: l, .av (.one (.p id 0)) :: m => id :: msOf l m
  | _ :: l, _ :: m => msOf l m
  | _, _ => []
def hide (G : Nat → Option Blk) (ms : List Nat) (id : Nat) : Option Blk := match memB id ms with
  | true => none
  | false => G id

section
variable {P : Program} {T : List (Nat × Ty)} {ρ : Nat → Loc} {D : Nat → Prop} {N : Nat} {M : List Nat} {G : Nat → Option Blk} {base : Nat} {w : World}
variable [GT]

omit [GT] in
theorem intsO_spec (ρ : Nat → Loc) {k : IntKind} {l : List Seg} {zs : List Int} (h : intsO k l = some zs) : segsVals ρ l = zs.map (Value.int k) := by
  unfold intsO at h
  split at h
  · split at h
    · rename_i j zs' hk
      injection h with h
      subst h
      have := ik_inj hk
      subst this
      rw [segsVals_one]; rfl
    · cases h
  · split at h
    · rename_i j F n hk
      injection h with h
      subst h
      have := ik_inj hk
      subst this
      rw [segsVals_one]; rfl
    · cases h
  · exact intsOf_spec ρ _ _ h
omit [GT] in
theorem freeB_ids {s : Seg} (h : freeB s = true) : s.ids = [] := by
  cases s <;> first | rfl | cases h
omit [GT] in
/-- What cells to be read need of their place. -/
def ReadAt (w : World) (l : Loc) (vs : List Value) : Prop :=
  vs.length ≤ l.cap ∧ (vs = [] ∨ ∃ x, l.a = some x ∧ ∀ j u, vs[j]? = some u → w.cell? (x.add j) = some u) ∧ ∀ x, l.a = some x → x.block < w.heap.size
omit [GT] in
/-- Where it lies is a block that is known. -/
def Src (ρ : Nat → Loc) (G : Nat → Option Blk) (l : Loc) : Prop := ∀ y, l.a = some y → ∃ id0 b0 x0, G id0 = some b0 ∧ (ρ id0).a = some x0 ∧ x0.block = y.block
omit [GT] in
theorem RowAt.read {l : Loc} {k : IntKind} {zs : List Int} (h : RowAt w l k zs) : ReadAt w l (zs.map (Value.int k)) := by
  obtain ⟨h1, h2, h3⟩ := h
  exact ⟨by simpa using h1, h2.imp (fun h => by rw [h]; rfl) fun h => h, h3⟩
theorem row_part' (hG : HR ρ D N M G w) {id : Nat} {b : Blk} (hb : G id = some b) {k : IntKind} {zs : List Int} (hz : intsO k b.c = some zs) {off len : Nat} (hl : off + len ≤ zs.length) : (cutI zs off len).length = len ∧ (cutI zs off len = [] ∨ ∃ x, (ρ id).a = some x ∧ ∀ j u, ((cutI zs off len).map (Value.int k))[j]? = some u → w.cell? ((x.add off).add j) = some u) := by
  have hv := intsO_spec ρ hz
  rw [cutI_eq]
  have hlen : ((zs.drop off).take len).length = len := by rw [List.length_take, List.length_drop]; omega
  refine ⟨hlen, ?_⟩
  by_cases h0 : len = 0
  · left
    rw [h0, List.take_zero]
  right
  have hcell : ∀ j, j < len → ∃ x, (ρ id).a = some x ∧ w.cell? (x.add (off + j)) = some (.int k (zs.getD (off + j) 0)) := fun j hj => by
    refine (hG.blk id b hb).2.2.cells ?_
    rw [hv, List.getElem?_map, List.getElem?_eq_getElem (by omega)]
    simp [List.getD_eq_getElem?_getD, List.getElem?_eq_getElem (show off + j < zs.length by omega)]
  obtain ⟨x, hx, _⟩ := hcell 0 (by omega)
  refine ⟨x, hx, fun j u hj => ?_⟩
  have hjl : j < len := by
    rcases Nat.lt_or_ge j len with h | h
    · exact h
    · rw [List.getElem?_eq_none (by rw [List.length_map, hlen]; exact h)] at hj; cases hj
  rw [List.getElem?_map, List.getElem?_take, if_pos hjl, List.getElem?_drop, List.getElem?_eq_getElem (by omega)] at hj
  simp only [Option.map_some, Option.some.injEq] at hj
  subst hj
  obtain ⟨y, hy, hc⟩ := hcell j hjl
  rw [hx] at hy
  injection hy with hy
  subst hy
  rw [add_add, hc, List.getD_eq_getElem?_getD, List.getElem?_eq_getElem (by omega)]
  rfl
omit [GT] in
theorem add_block (y : Addr) (o : Nat) : (y.add o).block = y.block := by unfold Addr.add; split <;> rfl
theorem readSl_spec (hG : HR ρ D N M G w) {wh : Bool} {k : IntKind} {x : Seg} {zs : List Int} {p : Asm} (h : readSl wh G k x = some (zs, p)) (hp : p.holds) : ∃ l : Loc, RowAt w l k zs ∧ Src ρ G l ∧ ∀ (ρc : Nat → Loc) (n : Nat), ρc n = l → Seg.vals ρc (.r n 0 zs.length 0) = x.vals ρ ∧ Seg.conc ρc (.r n 0 zs.length 0) = x.conc ρ := by
  have vals : ∀ (l : Loc), RowAt w l k zs → Src ρ G l → (∀ (ρc : Nat → Loc) (n : Nat), ρc n = l → Seg.conc ρc (.r n 0 zs.length 0) = x.conc ρ) → x.vals ρ = [x.conc ρ] → ∃ l : Loc, RowAt w l k zs ∧ Src ρ G l ∧ ∀ (ρc : Nat → Loc) (n : Nat), ρc n = l → Seg.vals ρc (.r n 0 zs.length 0) = x.vals ρ ∧ Seg.conc ρc (.r n 0 zs.length 0) = x.conc ρ :=
    fun l h1 hs h2 h3 => ⟨l, h1, hs, fun ρc n hn => ⟨by rw [h3, ← h2 ρc n hn]; rfl, h2 ρc n hn⟩⟩
  have sCase : ∀ (id off len cap : Nat) (b : Blk) (zs0 : List Int), x = .s id off len cap → G id = some b → intsO k b.c = some zs0 → off + len ≤ zs0.length → len ≤ cap → cutI zs0 off len = zs → ∃ l : Loc, RowAt w l k zs ∧ Src ρ G l ∧ ∀ (ρc : Nat → Loc) (n : Nat), ρc n = l → Seg.vals ρc (.r n 0 zs.length 0) = x.vals ρ ∧ Seg.conc ρc (.r n 0 zs.length 0) = x.conc ρ := by
    intro id off len cap b zs0 hx hb hz hl1 hl2 hc
    subst hx hc
    obtain ⟨e1, e2⟩ := row_part' hG hb hz hl1
    refine vals ⟨(ρ id).a.map (·.add off), cap⟩ ⟨by rw [e1]; exact hl2, e2.imp (fun h => h) fun ⟨x, hx, h⟩ => ⟨x.add off, by simp [hx], h⟩, fun x hx => ?_⟩ (fun x hx => ?_) (fun ρc n h0 => ?_) rfl
    · simp only [Option.map_eq_some_iff] at hx
      obtain ⟨y, hy, rfl⟩ := hx
      rw [add_block]
      exact hG.lt id b y hb hy
    · simp only [Option.map_eq_some_iff] at hx
      obtain ⟨y, hy, rfl⟩ := hx
      exact ⟨id, b, y, hb, hy, (add_block _ _).symm⟩
    · simp only [Seg.conc, h0, radr, e1]
      cases (ρ id).a <;> simp [Addr.add]
  have rCase : ∀ (id off len ad : Nat) (b : Blk) (zs0 : List Int), x = .r id off len ad → G id = some b → intsO k b.c = some zs0 → Nat.ble 1 b.k = true → off + len ≤ zs0.length → cutI zs0 off len = zs → ∃ l : Loc, RowAt w l k zs ∧ Src ρ G l ∧ ∀ (ρc : Nat → Loc) (n : Nat), ρc n = l → Seg.vals ρc (.r n 0 zs.length 0) = x.vals ρ ∧ Seg.conc ρc (.r n 0 zs.length 0) = x.conc ρ := by
    intro id off len ad b zs0 hx hb hz hk hl1 hc
    subst hx hc
    obtain ⟨e1, e2⟩ := row_part' hG hb hz hl1
    have hcap : zs0.length ≤ (ρ id).cap := by
      have := ((hG.blk id b hb).2.2.ro (.inr (Nat.le_of_ble_eq_true hk))).1
      rw [intsO_spec ρ hz, List.length_map] at this
      exact this
    refine vals ⟨radr (ρ id) off ad, (ρ id).cap - off⟩ ⟨by rw [e1]; simp only; omega, ?_, fun x hx => ?_⟩ (fun x hx => ?_) (fun ρc n h0 => ?_) rfl
    · rcases e2 with h | ⟨x, hx, h⟩
      · exact .inl h
      · by_cases h0 : len = 0
        · exact .inl (List.eq_nil_of_length_eq_zero (by rw [e1, h0]))
        · exact .inr ⟨x.add off, by simp only [radr, hx, Option.map_some]; rw [if_neg (by omega)], h⟩
    · simp only [radr, Option.map_eq_some_iff] at hx
      obtain ⟨y, hy, rfl⟩ := hx
      rw [add_block]
      exact hG.lt id b y hb hy
    · simp only [radr, Option.map_eq_some_iff] at hx
      obtain ⟨y, hy, rfl⟩ := hx
      exact ⟨id, b, y, hb, hy, (add_block _ _).symm⟩
    · simp only [Seg.conc, h0, e1]
      congr 1
      unfold radr
      simp only
      cases (ρ id).a <;> simp [Addr.add]
  unfold readSl at h
  split at h
  · simp only [Option.some.injEq, Prod.mk.injEq] at h
    obtain ⟨rfl, rfl⟩ := h
    exact vals ⟨none, 0⟩ ⟨Nat.le_refl _, .inl rfl, fun x hx => by cases hx⟩ (fun x hx => by cases hx) (fun ρc n h0 => by simp [Seg.conc, h0, radr]) rfl
  · rename_i id off len cap
    split at h
    · rename_i b hb
      split at h
      · rename_i zs0 hz
        split at h
        · simp only [Option.some.injEq, Prod.mk.injEq] at h
          obtain ⟨rfl, rfl⟩ := h
          obtain ⟨hl1, hl2⟩ : off + len ≤ zs0.length ∧ len ≤ cap := hp
          exact sCase id off len cap b zs0 rfl hb hz hl1 hl2 rfl
        · split at h
          · rename_i h0
            have h0 := Nat.eq_of_beq_eq_true h0
            subst h0
            simp only [Option.some.injEq, Prod.mk.injEq] at h
            obtain ⟨rfl, rfl⟩ := h
            obtain ⟨hl1, hl2⟩ : len = zs0.length ∧ len ≤ cap := hp
            exact sCase id 0 len cap b zs0 rfl hb hz (by omega) hl2 (by rw [hl1, cutI_all])
          · cases h
      · cases h
    · cases h
  · rename_i id off len ad
    split at h
    · rename_i b hb
      split at h
      · rename_i zs0 hz hk
        split at h
        · simp only [Option.some.injEq, Prod.mk.injEq] at h
          obtain ⟨rfl, rfl⟩ := h
          exact rCase id off len ad b zs0 rfl hb hz hk hp rfl
        · split at h
          · rename_i h0
            have h0 := Nat.eq_of_beq_eq_true h0
            subst h0
            simp only [Option.some.injEq, Prod.mk.injEq] at h
            obtain ⟨rfl, rfl⟩ := h
            have hl1 : len = zs0.length := hp
            exact rCase id 0 len ad b zs0 rfl hb hz hk (by omega) (by rw [hl1, cutI_all])
          · cases h
      · cases h
    · cases h
  · cases h

omit [GT] in
/-- A block of a contract's own memory, to be read. -/
def CanR (ρ : Nat → Loc) (G : Nat → Option Blk) (w : World) (ρc : Nat → Loc) (lo hi i : Nat) (b : Blk) : Prop :=
  lo ≤ i ∧ i < hi ∧ b.k = 2 ∧ segsIn (fun x => lo ≤ x ∧ x < hi) b.c ∧ ReadAt w (ρc i) (segsVals ρc b.c) ∧ Src ρ G (ρc i)
omit [GT] in
theorem CanR.mono {ρc : Nat → Loc} {lo hi lo' hi' i : Nat} {b : Blk} (h : CanR ρ G w ρc lo hi i b) (h1 : lo' ≤ lo) (h2 : hi ≤ hi') : CanR ρ G w ρc lo' hi' i b :=
  ⟨by have := h.1; omega, by have := h.2.1; omega, h.2.2.1, h.2.2.2.1.mono fun x hx => by omega, h.2.2.2.2⟩
omit [GT] in
theorem seg_free_vals {s : Seg} (h : freeB s = true) (ρ ρ' : Nat → Loc) : s.vals ρ' = s.vals ρ :=
  Seg.vals_congr (D := fun _ => False) (fun _ h => h.elim) (Seg.in_ids.2 fun i hi => by rw [freeB_ids h] at hi; cases hi)
omit [GT] in
theorem free_in {s : Seg} (h : freeB s = true) (D : Nat → Prop) : s.In D := Seg.in_ids.2 fun i hi => by rw [freeB_ids h] at hi; cases hi
theorem canonF (hG : HR ρ D N M G w) : ∀ (shs : List ShF) (c : List Seg) (cfs : List CF) (p : Asm) (n : Nat), readF G shs c = some (cfs, p) → p.holds → ∃ ρ0 : Nat → Loc, ∀ ρc : Nat → Loc, (∀ i, n ≤ i → i < n + fN cfs → ρc i = ρ0 i) →
    segsVals ρc (fS cfs n) = segsVals ρ c ∧ segsIn (fun x => n ≤ x ∧ x < n + fN cfs) (fS cfs n) ∧ ∀ i b, look (fB cfs n) i = some b → CanR ρ G w ρc n (n + fN cfs) i b
  | [], c, cfs, p, n, h, _ => by
    unfold readF at h
    split at h
    · simp only [Option.some.injEq, Prod.mk.injEq] at h
      obtain ⟨rfl, rfl⟩ := h
      exact ⟨fun _ => ⟨none, 0⟩, fun ρc _ => ⟨rfl, fun s hs => (by cases hs), fun i b hb => (by cases hb)⟩⟩
    · cases h
  | s :: shs, c, cfs, p, n, h, hp => by
    have row : ∀ (k : IntKind) (zs : List Int) (r : List CF) (q : Asm) (x : Seg) (c' : List Seg) (mk : CF) (sg : Seg) (l : Loc), readF G shs c' = some (r, q) → q.holds → RowAt w l k zs → Src ρ G l → (∀ ρc : Nat → Loc, ρc n = l → sg.vals ρc = x.vals ρ) → sg.ids = [n] → c = x :: c' → cfs = mk :: r →
        (∀ k', fS (mk :: r) k' = fS (mk :: r) k') → fS (mk :: r) n = sg :: fS r (n + 1) → fB (mk :: r) n = (n, ⟨2, 0, [.arr k zs]⟩) :: fB r (n + 1) → fN (mk :: r) = fN r + 1 →
        ∃ ρ0 : Nat → Loc, ∀ ρc : Nat → Loc, (∀ i, n ≤ i → i < n + fN cfs → ρc i = ρ0 i) → segsVals ρc (fS cfs n) = segsVals ρ c ∧ segsIn (fun x => n ≤ x ∧ x < n + fN cfs) (fS cfs n) ∧ ∀ i b, look (fB cfs n) i = some b → CanR ρ G w ρc n (n + fN cfs) i b := by
      intro k zs r q x c' mk sg l hr hq hrow hsrc hv hids hc hcf _ e1 e2 e3
      subst hc hcf
      obtain ⟨ρ1, h1⟩ := canonF hG shs c' r q (n + 1) hr hq
      refine ⟨fun i => if i = n then l else ρ1 i, fun ρc hρ => ?_⟩
      rw [e3] at hρ
      have hn : ρc n = l := by rw [hρ n (Nat.le_refl _) (by omega)]; exact if_pos rfl
      obtain ⟨a1, a2, a3⟩ := h1 ρc fun i hi1 hi2 => by rw [hρ i (by omega) (by omega)]; exact if_neg (by omega)
      rw [e1, e2, e3]
      refine ⟨by rw [segsVals_cons, segsVals_cons, hv ρc hn, a1], fun s hs => ?_, fun i b hb => ?_⟩
      · rcases List.mem_cons.1 hs with rfl | hs
        · exact Seg.in_ids.2 fun i hi => by rw [hids] at hi; simp at hi; omega
        · exact (a2 s hs).mono fun x hx => by omega
      · rw [look_cons] at hb
        by_cases hi : n = i
        · rw [if_pos hi] at hb
          injection hb with hb
          subst hb hi
          refine ⟨Nat.le_refl _, by omega, rfl, fun s hs => (by simp at hs; subst hs; trivial), ?_⟩
          rw [hn, segsVals_one]
          exact ⟨hrow.read, hsrc⟩
        · rw [if_neg hi] at hb
          exact (a3 i b hb).mono (by omega) (by omega)
    have plain : ∀ (r : List CF) (q : Asm) (a c' : List Seg) (mk : CF) (sg : Seg), readF G shs c' = some (r, q) → q.holds → (∀ ρc : Nat → Loc, sg.vals ρc = segsVals ρ a) → sg.ids = [] → segsVals ρ c = segsVals ρ a ++ segsVals ρ c' → cfs = mk :: r →
        fS (mk :: r) n = sg :: fS r n → fB (mk :: r) n = fB r n → fN (mk :: r) = fN r →
        ∃ ρ0 : Nat → Loc, ∀ ρc : Nat → Loc, (∀ i, n ≤ i → i < n + fN cfs → ρc i = ρ0 i) → segsVals ρc (fS cfs n) = segsVals ρ c ∧ segsIn (fun x => n ≤ x ∧ x < n + fN cfs) (fS cfs n) ∧ ∀ i b, look (fB cfs n) i = some b → CanR ρ G w ρc n (n + fN cfs) i b := by
      intro r q a c' mk sg hr hq hv hids hc hcf e1 e2 e3
      subst hcf
      obtain ⟨ρ1, h1⟩ := canonF hG shs c' r q n hr hq
      refine ⟨ρ1, fun ρc hρ => ?_⟩
      rw [e3] at hρ
      obtain ⟨a1, a2, a3⟩ := h1 ρc hρ
      rw [e1, e2, e3]
      refine ⟨by rw [segsVals_cons, hv ρc, a1, hc], fun s hs => ?_, a3⟩
      rcases List.mem_cons.1 hs with rfl | hs
      · exact Seg.in_ids.2 fun i hi => by rw [hids] at hi; cases hi
      · exact a2 s hs
    unfold readF at h
    split at h
    · cases ‹_ :: _ = []›
    · rename_i s' heq
      injection heq with e1 e2
      subst e1 e2
      split at h
      · rename_i x c'
        split at h
        · rename_i r q hf hr
          simp only [Option.some.injEq, Prod.mk.injEq] at h
          obtain ⟨rfl, rfl⟩ := h
          rw [Bool.and_eq_true] at hf
          exact plain r q [x] c' (.sg x) x hr hp (fun ρc => by rw [segsVals_one]; exact seg_free_vals hf.1 _ _) (freeB_ids hf.1) (by rw [segsVals_cons, segsVals_one]) rfl rfl rfl rfl
        · cases h
      · cases h
    · rename_i k m s' heq
      injection heq with e1 e2
      subst e1 e2
      split at h
      · rename_i a c' hcut
        split at h
        · rename_i zs r q hz hr
          simp only [Option.some.injEq, Prod.mk.injEq] at h
          obtain ⟨rfl, rfl⟩ := h
          refine plain r q a c' (.ag k zs) (.arr k zs) hr hp (fun ρc => by rw [intsO_spec ρ hz]; rfl) rfl (cut_spec ρ _ _ _ _ hcut).1.symm rfl rfl rfl rfl
        · cases h
      · cases h
    · rename_i k s' heq
      injection heq with e1 e2
      subst e1 e2
      split at h
      · rename_i x c'
        split at h
        · rename_i zs q r p' hz hr
          simp only [Option.some.injEq, Prod.mk.injEq] at h
          obtain ⟨rfl, rfl⟩ := h
          obtain ⟨l, h1, hs1, h2⟩ := readSl_spec hG hz hp.1
          exact row k zs r p' x c' (.sl k zs) (.r n 0 zs.length 0) l hr hp.2 h1 hs1 (fun ρc hn => (h2 ρc n hn).1) rfl rfl rfl (fun _ => rfl) rfl rfl rfl
        · cases h
      · cases h
    · rename_i k s' heq
      injection heq with e1 e2
      subst e1 e2
      split at h
      · rename_i x c'
        split at h
        · rename_i zs q r p' hz hr
          simp only [Option.some.injEq, Prod.mk.injEq] at h
          obtain ⟨rfl, rfl⟩ := h
          obtain ⟨l, h1, hs1, h2⟩ := readSl_spec hG hz hp.1
          exact row k zs r p' x c' (.sl k zs) (.r n 0 zs.length 0) l hr hp.2 h1 hs1 (fun ρc hn => (h2 ρc n hn).1) rfl rfl rfl (fun _ => rfl) rfl rfl rfl
        · cases h
      · cases h
    · rename_i k s' heq
      injection heq with e1 e2
      subst e1 e2
      split at h
      · rename_i id c'
        split at h
        · rename_i b hb
          split at h
          · rename_i zs r p' hz hr
            simp only [Option.some.injEq, Prod.mk.injEq] at h
            obtain ⟨rfl, rfl⟩ := h
            refine row k zs r p' (.p id 0) c' (.pi k zs) (.p n 0) ⟨(ρ id).a, zs.length⟩ hr hp ⟨Nat.le_refl _, ?_, fun x hx => hG.lt id b x hb hx⟩ (fun x hx => ⟨id, b, x, hb, hx, rfl⟩) (fun ρc hn => by simp only [Seg.vals, Seg.conc, hn]) rfl rfl rfl (fun _ => rfl) rfl rfl rfl
            have hv := intsO_spec ρ hz
            cases hzz : zs with
            | nil => exact .inl rfl
            | cons y l =>
              right
              have hok := (hG.blk id b hb).2.2
              obtain ⟨x, hx, _⟩ := hok.cells (j := 0) (u := .int k y) (by rw [hv, hzz]; rfl)
              refine ⟨x, hx, fun j u hj => ?_⟩
              rw [← hzz, ← hv] at hj
              obtain ⟨x', hx', hc'⟩ := hok.cells hj
              rw [hx] at hx'
              injection hx' with hx'
              subst hx'
              exact hc'
          · cases h
        · cases h
      · cases h
end
end Go.Proofs.Ytkoackalpcmhaaa.Am
