/- The cipher: New's contract. Conditions: none. -/
import Derived.Test.YtkoackalpcmhaaaZ6
import Derived.Test.YtkoackalpcmhaaaRows
import Derived.WalkKit
import Derived.ProofKit
import Derived.OpenShut
import Derived.ChangeOld
import Derived.Below
import Derived.ChangeSlices
import Derived.Test.YtkoackalpcmhaaaZ1
set_option linter.unusedSectionVars false
namespace Go.Proofs.Ytkoackalpcmhaaa.Am
set_option linter.unusedVariables false
set_option linter.unusedSimpArgs false
open Go Go.RowKit
variable [GT]

omit [GT] in
def xsN : Nat → Int
  | 0 => 1
  | i + 1 => newX (xsN i) i
omit [GT] in
def wsN (kb : Nat → Int) : Nat → (Nat → Int)
  | 0 => fun _ => 0
  | i + 1 => updW (wsN kb i) i (newW kb (wsN kb i) (xsN i) i)
theorem wx2_range (l : List Int) : ∀ x ∈ wx l 2, inR x := fun x hx => by
  simp only [wx, List.mem_cons, List.not_mem_nil, or_false] at hx
  rcases hx with rfl | rfl | rfl | rfl <;> exact bx_range _ _
theorem wsN_range {kb : Nat → Int} (hk : ∀ j, j < 32 → inR (kb j)) : ∀ i j, inR (wsN kb i j)
  | 0, j => ⟨Int.le_refl _, Nat.zero_le _⟩
  | i + 1, j => by
    unfold wsN updW
    split
    · refine g2_range (fun x hx => ?_) _
      unfold newW at hx
      split at hx
      · rename_i hi
        have hi : i + 1 ≤ 8 := Nat.le_of_ble_eq_true hi
        simp only [w4, List.mem_cons, List.not_mem_nil, or_false] at hx
        rcases hx with rfl | rfl | rfl | rfl <;> exact hk _ (by omega)
      · split at hx <;> exact wx2_range _ x hx
    · exact wsN_range hk i j
theorem rP_ok {z : Int} (h : inR z) : AllP (rP z) := ⟨h, by have := h.2; have : sbox.length = 256 := by decide +kernel
                                                            omega, trivial⟩
theorem AllP_append : ∀ {l m : List Prop}, AllP l → AllP m → AllP (l ++ m)
  | [], _, _, h => h
  | _ :: _, _, h, k => ⟨h.1, AllP_append h.2 k⟩
theorem newP_ok {cap : Nat} {W : Nat → Int} (hc : 32 ≤ cap) (hW : ∀ j, inR (W j)) (i : Nat) : AllP (newP cap W i) := by
  unfold newP
  split
  · rename_i hi
    have hi : i + 1 ≤ 8 := Nat.le_of_ble_eq_true hi
    exact ⟨hc, ⟨by omega, by omega⟩, ⟨by omega, by omega⟩, trivial⟩
  · split
    · exact AllP_append (rP_ok (hW _)) (AllP_append (rP_ok (hW _)) (AllP_append (rP_ok (hW _)) (rP_ok (hW _))))
    · exact AllP_append (rP_ok (hW _)) (AllP_append (rP_ok (hW _)) (AllP_append (rP_ok (hW _)) (rP_ok (hW _))))
    · trivial
theorem n_step (kb : Nat → Int) (cap : Nat) (hc : 32 ≤ cap) (hk : ∀ j, j < 32 → inR (kb j)) (n : Nat) : ∀ i, i < 60 → Reaches Try.prog 0 (.hd (n + 1) nX :: nK) (nS kb cap (wsN kb i) (xsN i) i) (.hd n nX :: nK) (nS kb cap (wsN kb (i + 1)) (xsN (i + 1)) (i + 1))
  | 0, _ => Reaches.round (reach_run tyT_ok nO_ok mixed_ (n_round0 kb (wsN kb 0) cap (xsN 0) n) (newP_ok hc (wsN_range hk 0) 0) rfl)
  | 1, _ => Reaches.round (reach_run tyT_ok nO_ok mixed_ (n_round1 kb (wsN kb 1) cap (xsN 1) n) (newP_ok hc (wsN_range hk 1) 1) rfl)
  | 2, _ => Reaches.round (reach_run tyT_ok nO_ok mixed_ (n_round2 kb (wsN kb 2) cap (xsN 2) n) (newP_ok hc (wsN_range hk 2) 2) rfl)
  | 3, _ => Reaches.round (reach_run tyT_ok nO_ok mixed_ (n_round3 kb (wsN kb 3) cap (xsN 3) n) (newP_ok hc (wsN_range hk 3) 3) rfl)
  | 4, _ => Reaches.round (reach_run tyT_ok nO_ok mixed_ (n_round4 kb (wsN kb 4) cap (xsN 4) n) (newP_ok hc (wsN_range hk 4) 4) rfl)
  | 5, _ => Reaches.round (reach_run tyT_ok nO_ok mixed_ (n_round5 kb (wsN kb 5) cap (xsN 5) n) (newP_ok hc (wsN_range hk 5) 5) rfl)
  | 6, _ => Reaches.round (reach_run tyT_ok nO_ok mixed_ (n_round6 kb (wsN kb 6) cap (xsN 6) n) (newP_ok hc (wsN_range hk 6) 6) rfl)
  | 7, _ => Reaches.round (reach_run tyT_ok nO_ok mixed_ (n_round7 kb (wsN kb 7) cap (xsN 7) n) (newP_ok hc (wsN_range hk 7) 7) rfl)
  | 8, _ => Reaches.round (reach_run tyT_ok nO_ok mixed_ (n_round8 kb (wsN kb 8) cap (xsN 8) n) (newP_ok hc (wsN_range hk 8) 8) rfl)
  | 9, _ => Reaches.round (reach_run tyT_ok nO_ok mixed_ (n_round9 kb (wsN kb 9) cap (xsN 9) n) (newP_ok hc (wsN_range hk 9) 9) rfl)
  | 10, _ => Reaches.round (reach_run tyT_ok nO_ok mixed_ (n_round10 kb (wsN kb 10) cap (xsN 10) n) (newP_ok hc (wsN_range hk 10) 10) rfl)
  | 11, _ => Reaches.round (reach_run tyT_ok nO_ok mixed_ (n_round11 kb (wsN kb 11) cap (xsN 11) n) (newP_ok hc (wsN_range hk 11) 11) rfl)
  | 12, _ => Reaches.round (reach_run tyT_ok nO_ok mixed_ (n_round12 kb (wsN kb 12) cap (xsN 12) n) (newP_ok hc (wsN_range hk 12) 12) rfl)
  | 13, _ => Reaches.round (reach_run tyT_ok nO_ok mixed_ (n_round13 kb (wsN kb 13) cap (xsN 13) n) (newP_ok hc (wsN_range hk 13) 13) rfl)
  | 14, _ => Reaches.round (reach_run tyT_ok nO_ok mixed_ (n_round14 kb (wsN kb 14) cap (xsN 14) n) (newP_ok hc (wsN_range hk 14) 14) rfl)
  | 15, _ => Reaches.round (reach_run tyT_ok nO_ok mixed_ (n_round15 kb (wsN kb 15) cap (xsN 15) n) (newP_ok hc (wsN_range hk 15) 15) rfl)
  | 16, _ => Reaches.round (reach_run tyT_ok nO_ok mixed_ (n_round16 kb (wsN kb 16) cap (xsN 16) n) (newP_ok hc (wsN_range hk 16) 16) rfl)
  | 17, _ => Reaches.round (reach_run tyT_ok nO_ok mixed_ (n_round17 kb (wsN kb 17) cap (xsN 17) n) (newP_ok hc (wsN_range hk 17) 17) rfl)
  | 18, _ => Reaches.round (reach_run tyT_ok nO_ok mixed_ (n_round18 kb (wsN kb 18) cap (xsN 18) n) (newP_ok hc (wsN_range hk 18) 18) rfl)
  | 19, _ => Reaches.round (reach_run tyT_ok nO_ok mixed_ (n_round19 kb (wsN kb 19) cap (xsN 19) n) (newP_ok hc (wsN_range hk 19) 19) rfl)
  | 20, _ => Reaches.round (reach_run tyT_ok nO_ok mixed_ (n_round20 kb (wsN kb 20) cap (xsN 20) n) (newP_ok hc (wsN_range hk 20) 20) rfl)
  | 21, _ => Reaches.round (reach_run tyT_ok nO_ok mixed_ (n_round21 kb (wsN kb 21) cap (xsN 21) n) (newP_ok hc (wsN_range hk 21) 21) rfl)
  | 22, _ => Reaches.round (reach_run tyT_ok nO_ok mixed_ (n_round22 kb (wsN kb 22) cap (xsN 22) n) (newP_ok hc (wsN_range hk 22) 22) rfl)
  | 23, _ => Reaches.round (reach_run tyT_ok nO_ok mixed_ (n_round23 kb (wsN kb 23) cap (xsN 23) n) (newP_ok hc (wsN_range hk 23) 23) rfl)
  | 24, _ => Reaches.round (reach_run tyT_ok nO_ok mixed_ (n_round24 kb (wsN kb 24) cap (xsN 24) n) (newP_ok hc (wsN_range hk 24) 24) rfl)
  | 25, _ => Reaches.round (reach_run tyT_ok nO_ok mixed_ (n_round25 kb (wsN kb 25) cap (xsN 25) n) (newP_ok hc (wsN_range hk 25) 25) rfl)
  | 26, _ => Reaches.round (reach_run tyT_ok nO_ok mixed_ (n_round26 kb (wsN kb 26) cap (xsN 26) n) (newP_ok hc (wsN_range hk 26) 26) rfl)
  | 27, _ => Reaches.round (reach_run tyT_ok nO_ok mixed_ (n_round27 kb (wsN kb 27) cap (xsN 27) n) (newP_ok hc (wsN_range hk 27) 27) rfl)
  | 28, _ => Reaches.round (reach_run tyT_ok nO_ok mixed_ (n_round28 kb (wsN kb 28) cap (xsN 28) n) (newP_ok hc (wsN_range hk 28) 28) rfl)
  | 29, _ => Reaches.round (reach_run tyT_ok nO_ok mixed_ (n_round29 kb (wsN kb 29) cap (xsN 29) n) (newP_ok hc (wsN_range hk 29) 29) rfl)
  | 30, _ => Reaches.round (reach_run tyT_ok nO_ok mixed_ (n_round30 kb (wsN kb 30) cap (xsN 30) n) (newP_ok hc (wsN_range hk 30) 30) rfl)
  | 31, _ => Reaches.round (reach_run tyT_ok nO_ok mixed_ (n_round31 kb (wsN kb 31) cap (xsN 31) n) (newP_ok hc (wsN_range hk 31) 31) rfl)
  | 32, _ => Reaches.round (reach_run tyT_ok nO_ok mixed_ (n_round32 kb (wsN kb 32) cap (xsN 32) n) (newP_ok hc (wsN_range hk 32) 32) rfl)
  | 33, _ => Reaches.round (reach_run tyT_ok nO_ok mixed_ (n_round33 kb (wsN kb 33) cap (xsN 33) n) (newP_ok hc (wsN_range hk 33) 33) rfl)
  | 34, _ => Reaches.round (reach_run tyT_ok nO_ok mixed_ (n_round34 kb (wsN kb 34) cap (xsN 34) n) (newP_ok hc (wsN_range hk 34) 34) rfl)
  | 35, _ => Reaches.round (reach_run tyT_ok nO_ok mixed_ (n_round35 kb (wsN kb 35) cap (xsN 35) n) (newP_ok hc (wsN_range hk 35) 35) rfl)
  | 36, _ => Reaches.round (reach_run tyT_ok nO_ok mixed_ (n_round36 kb (wsN kb 36) cap (xsN 36) n) (newP_ok hc (wsN_range hk 36) 36) rfl)
  | 37, _ => Reaches.round (reach_run tyT_ok nO_ok mixed_ (n_round37 kb (wsN kb 37) cap (xsN 37) n) (newP_ok hc (wsN_range hk 37) 37) rfl)
  | 38, _ => Reaches.round (reach_run tyT_ok nO_ok mixed_ (n_round38 kb (wsN kb 38) cap (xsN 38) n) (newP_ok hc (wsN_range hk 38) 38) rfl)
  | 39, _ => Reaches.round (reach_run tyT_ok nO_ok mixed_ (n_round39 kb (wsN kb 39) cap (xsN 39) n) (newP_ok hc (wsN_range hk 39) 39) rfl)
  | 40, _ => Reaches.round (reach_run tyT_ok nO_ok mixed_ (n_round40 kb (wsN kb 40) cap (xsN 40) n) (newP_ok hc (wsN_range hk 40) 40) rfl)
  | 41, _ => Reaches.round (reach_run tyT_ok nO_ok mixed_ (n_round41 kb (wsN kb 41) cap (xsN 41) n) (newP_ok hc (wsN_range hk 41) 41) rfl)
  | 42, _ => Reaches.round (reach_run tyT_ok nO_ok mixed_ (n_round42 kb (wsN kb 42) cap (xsN 42) n) (newP_ok hc (wsN_range hk 42) 42) rfl)
  | 43, _ => Reaches.round (reach_run tyT_ok nO_ok mixed_ (n_round43 kb (wsN kb 43) cap (xsN 43) n) (newP_ok hc (wsN_range hk 43) 43) rfl)
  | 44, _ => Reaches.round (reach_run tyT_ok nO_ok mixed_ (n_round44 kb (wsN kb 44) cap (xsN 44) n) (newP_ok hc (wsN_range hk 44) 44) rfl)
  | 45, _ => Reaches.round (reach_run tyT_ok nO_ok mixed_ (n_round45 kb (wsN kb 45) cap (xsN 45) n) (newP_ok hc (wsN_range hk 45) 45) rfl)
  | 46, _ => Reaches.round (reach_run tyT_ok nO_ok mixed_ (n_round46 kb (wsN kb 46) cap (xsN 46) n) (newP_ok hc (wsN_range hk 46) 46) rfl)
  | 47, _ => Reaches.round (reach_run tyT_ok nO_ok mixed_ (n_round47 kb (wsN kb 47) cap (xsN 47) n) (newP_ok hc (wsN_range hk 47) 47) rfl)
  | 48, _ => Reaches.round (reach_run tyT_ok nO_ok mixed_ (n_round48 kb (wsN kb 48) cap (xsN 48) n) (newP_ok hc (wsN_range hk 48) 48) rfl)
  | 49, _ => Reaches.round (reach_run tyT_ok nO_ok mixed_ (n_round49 kb (wsN kb 49) cap (xsN 49) n) (newP_ok hc (wsN_range hk 49) 49) rfl)
  | 50, _ => Reaches.round (reach_run tyT_ok nO_ok mixed_ (n_round50 kb (wsN kb 50) cap (xsN 50) n) (newP_ok hc (wsN_range hk 50) 50) rfl)
  | 51, _ => Reaches.round (reach_run tyT_ok nO_ok mixed_ (n_round51 kb (wsN kb 51) cap (xsN 51) n) (newP_ok hc (wsN_range hk 51) 51) rfl)
  | 52, _ => Reaches.round (reach_run tyT_ok nO_ok mixed_ (n_round52 kb (wsN kb 52) cap (xsN 52) n) (newP_ok hc (wsN_range hk 52) 52) rfl)
  | 53, _ => Reaches.round (reach_run tyT_ok nO_ok mixed_ (n_round53 kb (wsN kb 53) cap (xsN 53) n) (newP_ok hc (wsN_range hk 53) 53) rfl)
  | 54, _ => Reaches.round (reach_run tyT_ok nO_ok mixed_ (n_round54 kb (wsN kb 54) cap (xsN 54) n) (newP_ok hc (wsN_range hk 54) 54) rfl)
  | 55, _ => Reaches.round (reach_run tyT_ok nO_ok mixed_ (n_round55 kb (wsN kb 55) cap (xsN 55) n) (newP_ok hc (wsN_range hk 55) 55) rfl)
  | 56, _ => Reaches.round (reach_run tyT_ok nO_ok mixed_ (n_round56 kb (wsN kb 56) cap (xsN 56) n) (newP_ok hc (wsN_range hk 56) 56) rfl)
  | 57, _ => Reaches.round (reach_run tyT_ok nO_ok mixed_ (n_round57 kb (wsN kb 57) cap (xsN 57) n) (newP_ok hc (wsN_range hk 57) 57) rfl)
  | 58, _ => Reaches.round (reach_run tyT_ok nO_ok mixed_ (n_round58 kb (wsN kb 58) cap (xsN 58) n) (newP_ok hc (wsN_range hk 58) 58) rfl)
  | 59, _ => Reaches.round (reach_run tyT_ok nO_ok mixed_ (n_round59 kb (wsN kb 59) cap (xsN 59) n) (newP_ok hc (wsN_range hk 59) 59) rfl)
  | i + 60, h => by omega
theorem n_steps (kb : Nat → Int) (cap : Nat) (hc : 32 ≤ cap) (hk : ∀ j, j < 32 → inR (kb j)) (n : Nat) : ∀ i, i ≤ 60 → Reaches Try.prog 0 (.hd (n + i) nX :: nK) (nS kb cap (wsN kb 0) (xsN 0) 0) (.hd n nX :: nK) (nS kb cap (wsN kb i) (xsN i) i)
  | 0, _ => Reaches.refl
  | i + 1, h => by
    have := n_steps kb cap hc hk (n + 1) i (by omega)
    rw [show n + 1 + i = n + (i + 1) by omega] at this
    exact this.trans (n_step kb cap hc hk n i (by omega))
theorem n_reach (kb : Nat → Int) (cap : Nat) (hc : 32 ≤ cap) (hk : ∀ j, j < 32 → inR (kb j)) {c : Code} (hb : Try.f11.body = some c) : Reaches Try.prog 0 [.code c] (start (nArgs cap) 89 (nHp kb) 1 []) [.fin] (nEnd kb (wsN kb 60)) :=
  (reach_run tyT_ok nO_ok mixed_ (n_start kb cap hb) trivial rfl).trans (Reaches.loop (1 + 60) ((n_steps kb cap hc hk 1 60 (Nat.le_refl _)).trans (Reaches.round (reach_run tyT_ok nO_ok mixed_ (n_end kb (wsN kb 60) cap (xsN 60) 0) trivial rfl))))
omit [GT] in
/-- The key's words of these bytes. -/
def schedW (zs : List Int) (off : Nat) : Nat → Int := wsN (fun j => g2 zs (off + j)) 60
omit [GT] in
def eNew : Ent := fun args G base => match args with
  | [.av (.one (.s id off n cap))] => match G id with
    | some b => match intsOf .u8 b.c with
      | some zs => match Nat.beq n 32 && Nat.ble (off + 32) zs.length with
        | true => some { val := .tup [.one (.p (base + 1) 0), .one (.v (.int .i64 0))], new := [⟨0, 66, [.arr .u8 sbox]⟩, ⟨0, 53, .p (base + 0) 0 :: pieces (schedW zs off) 60⟩], asm := .say (32 ≤ cap ∧ ∀ j, j < 32 → inR (g2 zs (off + j))) }
        | false => none
      | none => none
    | none => none
  | _ => none
theorem renL_pieces (f : Nat → Nat) (W : Nat → Int) : ∀ l : List Nat, renL f (l.map (piece W)) = l.map (piece W)
  | [] => rfl
  | x :: l => by rw [List.map_cons, renL, renL_pieces f W l]; rfl
theorem new_ent : EntOK Try.prog 11 eNew := by
  refine ⟨⟨_, Try.func11, by kernel_rfl, by kernel_rfl⟩, fun args G base res hr ha ρ D N M w hG hin hfr => ?_⟩
  unfold eNew at hr
  split at hr
  · rename_i id off n cap
    split at hr
    · rename_i b hb
      split at hr
      · rename_i zs hz
        split at hr
        · rename_i hn
          rw [Bool.and_eq_true] at hn
          have e1 := Nat.eq_of_beq_eq_true hn.1
          have hle := Nat.le_of_ble_eq_true hn.2
          subst e1
          simp only [Option.some.injEq] at hr
          subst hr
          obtain ⟨hcap, hk⟩ : 32 ≤ cap ∧ ∀ j, j < 32 → inR (g2 zs (off + j)) := ha
          obtain ⟨kb, hkb⟩ : ∃ kb : Nat → Int, kb = fun j => g2 zs (off + j) := ⟨_, rfl⟩
          have hk' : ∀ j, j < 32 → inR (kb j) := fun j hj => by rw [hkb]; exact hk j hj
          obtain ⟨ρc, hρc⟩ : ∃ ρc : Nat → Loc, ρc = fun _ => ⟨(ρ id).a.map (·.add off), 32⟩ := ⟨_, rfl⟩
          have hv := intsOf_spec ρ _ _ hz
          have hcell : ∀ j, j < 32 → ∃ x, (ρ id).a = some x ∧ w.cell? (x.add (off + j)) = some (.int .u8 (kb j)) := fun j hj => by
            refine (hG.blk id b hb).2.2.cells ?_
            rw [hv, List.getElem?_map, List.getElem?_eq_getElem (by omega), hkb]
            simp [g2, List.getD_eq_getElem?_getD, List.getElem?_eq_getElem (show off + j < zs.length by omega)]
          obtain ⟨y, hy, _⟩ := hcell 0 (by omega)
          have hH : HR ρc (· < 1) w.heap.size [] (look (nHp kb)) w := by
            refine ⟨Nat.le_refl _, fun i b' hb' => ?_, fun i b' x hb' hx => ?_, fun i b' x hb' hk hx => ?_, fun i j bi bj x y hi hj hij hk hx hy => ?_, hG.gwc⟩
            · unfold nHp at hb'
              rw [look_cons] at hb'
              split at hb'
              · rename_i hi
                injection hb' with hb'
                subst hb'
                refine ⟨by omega, (fun s hs => (by simp at hs; subst hs; trivial)), ?_⟩
                show (segsVals ρc [.arr .u8 (keyL 32 kb)]).length ≤ (ρc i).cap ∧ _
                rw [segsVals_one]
                have hl : (Seg.vals ρc (.arr .u8 (keyL 32 kb))) = (keyL 32 kb).map (Value.int .u8) := rfl
                rw [hl, hρc]
                refine ⟨by rw [List.length_map, keyL_len]; exact Nat.le_refl _, .inr ⟨y.add off, by simp only [hy, Option.map_some], fun j u hj => ?_⟩⟩
                have hj32 : j < 32 := by
                  rcases Nat.lt_or_ge j 32 with h | h
                  · exact h
                  · rw [List.getElem?_eq_none (by rw [List.length_map, keyL_len]; exact h)] at hj; cases hj
                rw [List.getElem?_map, keyL_get 32 kb j hj32] at hj
                injection hj with hj
                subst hj
                obtain ⟨y', hy', hc⟩ := hcell j hj32
                rw [hy] at hy'
                injection hy' with hy'
                subst hy'
                rw [add_add]
                exact hc
              · cases hb'
            · rw [hρc] at hx
              simp only [hy, Option.map_some, Option.some.injEq] at hx
              subst hx
              have := hG.lt id b y hb hy
              have e : (y.add off).block = y.block := by unfold Addr.add; split <;> rfl
              rw [e]; exact this
            · unfold nHp at hb'
              rw [look_cons] at hb'
              split at hb'
              · injection hb' with hb'; subst hb'; simp at hk
              · cases hb'
            · unfold nHp at hi
              rw [look_cons] at hi
              split at hi
              · injection hi with hi; subst hi; simp at hk
              · cases hi
          obtain ⟨c, hc⟩ : ∃ c, Try.f11.body = some c := Option.isSome_iff_exists.1 (by kernel_rfl)
          have hcall := reach_new (D := D) (N := N) (M := M) (G := G) (base := base) (ρ := ρ) tyT_ok Try.func11 hc (avs := nArgs cap) (.inr rfl) (n_reach kb cap hcap hk' hc) (v := .tup [.one (.p 2 0), .one (.v (.int .i64 0))]) (by kernel_rfl) (es := [1, 2]) (by kernel_rfl) (by kernel_rfl) (by kernel_rfl) (by kernel_rfl) (fun s hs => by
            simp only [nArgs, List.mem_cons, List.not_mem_nil, or_false] at hs
            subst hs
            exact fun s hs => (by simp [AV.segs] at hs; subst hs; exact (show (0 : Nat) < 1 by omega))) hH hG hfr (r := { val := .tup [.one (.p (base + 1) 0), .one (.v (.int .i64 0))], new := [⟨0, 66, [.arr .u8 sbox]⟩, ⟨0, 53, .p (base + 0) 0 :: pieces (wsN kb 60) 60⟩] }) (by kernel_rfl)
          have e : (nArgs cap).map (SV.conc ρc) = [SV.av (.one (.s id off 32 cap))].map (SV.conc ρ) := by
            simp only [nArgs, List.map_cons, List.map_nil, SV.conc, AV.conc, Seg.conc, hρc, hy, Option.map_some, add_add, Nat.add_zero]
          rw [e] at hcall
          have e2 : schedW zs off = wsN kb 60 := by rw [hkb]; rfl
          rw [e2]
          refine hcall.mono fun e w' ⟨v, h1, ρ', hF⟩ => ⟨v, h1, ρ', ⟨hF.agree, hF.val, hF.hr, hF.kept, hF.fresh⟩⟩
        · cases hr
      · cases hr
    · cases hr
  · cases hr
end Go.Proofs.Ytkoackalpcmhaaa.Am
/- The cipher: what is awake. Conditions: none. -/
namespace Go.Proofs.Ytkoackalpcmhaaa.Am
set_option linter.unusedVariables false
set_option linter.unusedSimpArgs false
open Go Go.RowKit
variable [GT]

/-! rounds on lists -/
omit [GT] in
def stepL (kf : Nat → Int) (r : Nat) (l : List Int) : List Int := keyL 16 (gAdd kf r (gMix (gRow (g2 l))))
omit [GT] in
def rndsL (kf : Nat → Int) : Nat → Nat → List Int → List Int
  | _, 0, l => l
  | r, n + 1, l => rndsL kf (r + 1) n (stepL kf r l)
omit [GT] in
def encF (kf bf : Nat → Int) : List Int := keyL 16 (gAdd kf 14 (gRow (g2 (rndsL kf 1 13 (keyL 16 (gAdd kf 0 bf))))))
theorem gAdd_congr {kf g h : Nat → Int} (e : ∀ i, i < 16 → g i = h i) (r i : Nat) (hi : i < 16) : gAdd kf r g i = gAdd kf r h i := by
  unfold gAdd wk
  rw [e (4 * (i / 4)) (by omega), e (4 * (i / 4) + 1) (by omega), e (4 * (i / 4) + 2) (by omega), e (4 * (i / 4) + 3) (by omega)]
theorem gRow_congr {g h : Nat → Int} (e : ∀ i, i < 16 → g i = h i) (i : Nat) (hi : i < 16) : gRow g i = gRow h i := by
  unfold gRow
  rw [e _ (by omega)]
theorem gMix_congr {g h : Nat → Int} (e : ∀ i, i < 16 → g i = h i) (i : Nat) (hi : i < 16) : gMix g i = gMix h i := by
  unfold gMix
  rw [e (4 * (i / 4)) (by omega), e (4 * (i / 4) + 1) (by omega), e (4 * (i / 4) + 2) (by omega), e (4 * (i / 4) + 3) (by omega)]
theorem rnds_L {kf : Nat → Int} : ∀ (n r : Nat) (g : Nat → Int) (l : List Int), (∀ i, i < 16 → g i = g2 l i) → ∀ i, i < 16 → rnds kf r n g i = g2 (rndsL kf r n l) i
  | 0, _, _, _, h => h
  | n + 1, r, g, l, h => by
    refine rnds_L n (r + 1) _ _ fun i hi => ?_
    rw [stepL, g2_keyL 16 _ i hi]
    exact gAdd_congr (fun i hi => gMix_congr (fun i hi => gRow_congr h i hi) i hi) r i hi
theorem enc_F (kf bf : Nat → Int) : keyL 16 (encG kf bf) = encF kf bf :=
  keyL_congr fun i hi => gAdd_congr (fun i hi => gRow_congr (rnds_L 13 1 _ _ fun i hi => (g2_keyL 16 _ i hi).symm) i hi) 14 i hi

omit [GT] in
def w0K : Nat → Int := schedW (List.replicate 32 0) 0
theorem w0_list : ∃ ks : List Int, keyL 240 w0K = ks ∧ (encF (g2 ks) (g2 (List.replicate 16 255)) == List.replicate 16 255) = false := ⟨_, rfl, by decide +kernel⟩

omit [GT] in
noncomputable def lO : List (Nat × Ent) := [(11, eNew), (16, e16 nextL), (13, eBlock)]
theorem lO_ok : OOK Try.prog lO := ook_of (l := [(11, eNew), (16, e16 nextL), (13, eBlock)]) ⟨new_ent, next_ent, block_ent, trivial⟩
omit [GT] in
def ffs : List Int := List.replicate 16 255
omit [GT] in
def awPs : List Prop := [32 ≤ 32 ∧ ∀ j, j < 32 → inR (g2 (List.replicate 32 0) (0 + j)), sbox = sbox, isA (!(encL (keyL 240 w0K) ffs == ffs)) true]
theorem awake_run : wholeV tyT lO (atH 8 17 (isB true) noH) [(3, 17)] 1000 Try.f10 [] = some (ofV (.bool true), awPs) := by
  kernel_rfl
theorem awPs_ok : AllP awPs := by
  refine ⟨⟨Nat.le_refl _, fun j hj => ?_⟩, rfl, fun ρ => ?_, trivial⟩
  · refine g2_range (fun x hx => ?_) _
    rw [List.mem_replicate] at hx
    rw [hx.2]
    exact ⟨Int.le_refl _, Nat.zero_le _⟩
  · obtain ⟨ks, h1, h2⟩ := w0_list
    have : encL (keyL 240 w0K) ffs = encF (g2 ks) (g2 (List.replicate 16 255)) := by
      rw [← h1]
      exact enc_F _ _
    rw [this]
    show (ofV (.bool (!(_ == List.replicate 16 255)))).conc ρ = _
    rw [h2]
    rfl
omit [GT] in
def eTrue : Ent := fun args _ _ => match args with
  | [] => some { val := ofV (.bool true) }
  | _ => none
theorem awake_ent : EntOK Try.prog 10 eTrue := by
  refine ⟨⟨_, Try.func10, by kernel_rfl, by kernel_rfl⟩, fun args G base res hr ha ρ D N M w hG hin hfr => ?_⟩
  unfold eTrue at hr
  split at hr
  · simp only [Option.some.injEq] at hr
    subst hr
    exact ent_val (am_val tyT_ok lO_ok mixed_ Try.func10 (avs := []) (by kernel_rfl) awake_run awPs_ok (by kernel_rfl) (by kernel_rfl) ρ w hG.gwc) hG rfl rfl rfl
  · cases hr
end Go.Proofs.Ytkoackalpcmhaaa.Am
/- Law 05's Next. Conditions: none. -/
namespace Go.Proofs.Ytkoackalpcmhaaa.Am
set_option linter.unusedVariables false
set_option linter.unusedSimpArgs false
open Go Go.RowKit
variable [GT]

omit [GT] in
noncomputable def mO : List (Nat × Ent) := [(10, eTrue), (11, eNew), (16, e16 nextL), (13, eBlock), (17, e16 rnextL)]
theorem mO_ok : OOK Try.prog mO := ook_of (l := [(10, eTrue), (11, eNew), (16, e16 nextL), (13, eBlock), (17, e16 rnextL)]) ⟨awake_ent, new_ent, next_ent, block_ent, rnext_ent, trivial⟩
theorem lawNext_run (bf : Nat → Int) : wholeV tyT mO (atH 1 6 (isB true) noH) [] 1000 Try.f4 [.av (.one (.arr .u8 (keyL 16 bf)))] = some (ofV (.bool true), [isA (nextL (keyL 16 bf) == rnextL (keyL 16 bf)) true]) := by
  kernel_rfl
theorem wf_inR {z : Int} (h : (Lit.int .u8 z).wf = true) : inR z := by
  have := bounds_u8 h
  constructor <;> omega
theorem wf_g2 {bs : List Int} (h : ∀ z ∈ bs, (Lit.int .u8 z).wf = true) (j : Nat) : inR (g2 bs j) := g2_range (fun x hx => wf_inR (h x hx)) j
theorem lawNext_fact (bs : List Int) (hl : bs.length = 16) (hw : ∀ z ∈ bs, (Lit.int .u8 z).wf = true) (w : World) (hgw : GWok w.heap.size [] w) : Calls Try.prog 4 #[.agg (bs.map (Value.int .u8)).toArray] w fun e w' => e = .returned (.bool true) ∧ Below w.heap.size w w' := by
  have := am_val tyT_ok mO_ok mixed_ Try.func4 (avs := [.av (.one (.arr .u8 (keyL 16 (g2 bs))))]) (by kernel_rfl) (lawNext_run (g2 bs)) ⟨fun ρ => by
    rw [keyL_g2 hl, next_eq (bs := bs) (wf_g2 hw), beq_self_eq_true], trivial⟩ (by kernel_rfl) (by kernel_rfl) (fun _ => ⟨none, 0⟩) w hgw
  rw [keyL_g2 hl] at this
  exact this
end Go.Proofs.Ytkoackalpcmhaaa.Am
/- Law 05's Streams: the run. Conditions: none. -/
namespace Go.Proofs.Ytkoackalpcmhaaa.Am
set_option linter.unusedVariables false
set_option linter.unusedSimpArgs false
open Go Go.RowKit
set_option linter.unusedSectionVars false
variable [GT]
noncomputable def lsO : List (Nat × Ent) := [(10, eTrue), (11, eNew), (16, e16 nextL), (18, eStream)]
theorem lsO_ok : OOK Try.prog lsO := ook_of (l := [(10, eTrue), (11, eNew), (16, e16 nextL), (18, eStream)]) ⟨awake_ent, new_ent, next_ent, stream_ent, trivial⟩
def lsH (a c : Nat) : Nat → Nat → Hint := atH 7 2 (isI .i64 (a : Nat)) (atH 8 9 (isI .i64 (c : Nat)) (atH 8 10 (isI .i64 ((a + c : Nat) : Int)) (atH 8 11 (isI .i64 ((a + c + 16 : Nat) : Int)) (atH 10 3 (isB true) (atH 10 7 symH (atH 10 8 symH (atH 10 10 symH (atH 10 11 (isB true) (atH 10 18 (isI .i64 ((a + c : Nat) : Int)) (atH 10 19 (isI .i64 ((a : Nat) : Int)) (atH 10 20 symH (atH 10 21 symH (atH 10 23 symH (atH 10 24 symH (atH 10 28 (isI .i64 ((a + c : Nat) : Int)) (atH 10 29 (isI .i64 ((a : Nat) : Int)) (atH 10 30 symH (atH 10 31 (isB true) noH))))))))))))))))))
def lsK (kf : Nat → Int) : List Int := keyL 240 (schedW (keyL 32 kf) 0)
def lsS (kf bf : Nat → Int) (n : Nat) : List Int := strm (lsK kf) n (keyL 16 bf)
def lsX (kf bf : Nat → Int) (n : Nat) : List Int := strm (lsK kf) n (nextL (keyL 16 bf))
def lsQ (kf bf : Nat → Int) (a c : Nat) : ByteArray := strOf (((lsS kf bf ((a + c + 16 + 15) / 16)).drop (slOff 0 16 (a + c + 16) (a + c + 16) 1)).take (a + c + 16 - 16) ++ [])
def lsP (kf bf : Nat → Int) (p q : Int) (a c : Nat) : List Prop := [32 ≤ 32 ∧ ∀ j, j < 32 → inR (g2 (keyL 32 kf) (0 + j)),
  tI .i64 (IntKind.i64.wrap (Int.tmod p 80)) (a : Nat), sbox = sbox ∧ 0 ≤ (a : Int) ∧ (a : Int) ≤ 1000000, tI .i64 (IntKind.i64.wrap (Int.tmod q 80)) (c : Nat),
  tI .i64 (IntKind.i64.wrap ((a : Int) + (c : Int))) ((a + c : Nat) : Int), tI .i64 (IntKind.i64.wrap (((a + c : Nat) : Int) + 16)) ((a + c + 16 : Nat) : Int),
  sbox = sbox ∧ 0 ≤ ((a + c + 16 : Nat) : Int) ∧ ((a + c + 16 : Nat) : Int) ≤ 1000000, sbox = sbox ∧ 0 ≤ (a : Int) ∧ (a : Int) ≤ 1000000,
  tB ((a : Int) == (a : Int)) true, a + c + 16 ≤ a + c + 16, 0 ≤ (a : Int) ∧ a ≤ a + c + 16,
  0 + a ≤ widths [Seg.arr .u8 (lsS kf bf ((a + c + 16 + 15) / 16))], 0 + a ≤ widths [Seg.arr .u8 (lsS kf bf ((a + 15) / 16))],
  tB ((strOf ((lsS kf bf ((a + c + 16 + 15) / 16)).take a ++ [])).toList == (strOf ((lsS kf bf ((a + 15) / 16)).take a ++ [])).toList) true,
  tI .i64 (IntKind.i64.wrap (((a + c + 16 : Nat) : Int) - 16)) ((a + c : Nat) : Int), tI .i64 (if ((a + c : Nat) : Int) < (a : Int) then ((a + c : Nat) : Int) else (a : Int)) (a : Int),
  a ≤ a, 0 ≤ (a : Int) ∧ a ≤ a, 0 + a ≤ widths [Seg.arr .u8 (lsX kf bf ((a + 15) / 16))], a + c + 16 ≤ a + c + 16, (0 : Int) ≤ 16 ∧ 16 ≤ a + c + 16,
  slOff 0 16 (a + c + 16) (a + c + 16) 1 + (a + c + 16 - 16) ≤ widths [Seg.arr .u8 (lsS kf bf ((a + c + 16 + 15) / 16))],
  tI .i64 (IntKind.i64.wrap (((a + c + 16 : Nat) : Int) - 16)) ((a + c : Nat) : Int), tI .i64 (if ((a + c : Nat) : Int) < (a : Int) then ((a + c : Nat) : Int) else (a : Int)) (a : Int),
  0 ≤ (a : Int) ∧ a ≤ (lsQ kf bf a c).size,
  tB ((strOf ((lsX kf bf ((a + 15) / 16)).take a ++ [])).toList == ((lsQ kf bf a c).extract 0 a).toList) true]
noncomputable abbrev fLS : Func := Try.f7
def lsA (kf bf : Nat → Int) (p q : Int) : List SV := [.av (.one (.arr .u8 (keyL 32 kf))), .av (.one (.arr .u8 (keyL 16 bf))), .av (.one (.arr .u8 [p, q]))]
noncomputable def lsEnd : St := { tm := tmL 86 [(6, ofV (.bool true))], hp := [], nx := 0, gl := [] }
theorem ls_run (kf bf : Nat → Int) (p q : Int) (a c : Nat) : runF tyT lsO (lsH a c) [] 0 [] [6] fLS (lsA kf bf p q) [] 0 [] = some ([.fin], lsEnd, lsP kf bf p q a c) := by kernel_rfl
end Go.Proofs.Ytkoackalpcmhaaa.Am
/- Opening arrays of bytes, and rows of them, at a law's call. Conditions: none. -/
namespace Go.Proofs.Ytkoackalpcmhaaa
set_option linter.unusedVariables false
set_option linter.unusedSimpArgs false
open Go Go.ChangeShapes Go.WideShapes Go.ChangeAt Go.RowKit

theorem own_ : ownKnob Try.prog.godebug = none := by kernel_rfl
theorem laidOut_ : laidOutB Try.prog = true := by kernel_rfl
theorem ints_of {k : IntKind} : ∀ l : List Value, (∀ i, i < l.length → ∃ z, l[i]? = some (.int k z) ∧ (Lit.int k z).wf = true) → ∃ bs : List Int, l = bs.map (Value.int k) ∧ ∀ z ∈ bs, (Lit.int k z).wf = true
  | [], _ => ⟨[], rfl, by simp⟩
  | x :: l, h => by
    obtain ⟨z, hz, hw⟩ := h 0 (by simp)
    obtain ⟨bs, hb, hbw⟩ := ints_of l fun i hi => by
      obtain ⟨z, hz, hw⟩ := h (i + 1) (by simp; omega)
      exact ⟨z, by simpa using hz, hw⟩
    simp only [List.getElem?_cons_zero, Option.some.injEq] at hz
    subst hz
    refine ⟨z :: bs, by rw [hb]; rfl, fun y hy => ?_⟩
    rcases List.mem_cons.1 hy with rfl | hy
    · exact hw
    · exact hbw y hy
/-- An array of integers that comes in. -/
theorem open_arr {H : Type} {enc : TypeId × Value → H} {W : World} {base : Nat} {b0 : Nat} {spare : Nat → Bool} {held : Bool} {v : Value} {d : DataW H} {ps : List MemPlace} {t e : TypeId} {n : Nat} {k : IntKind}
    (ht : Try.prog.underlying t = some (.array n e)) (he : Try.prog.underlying e = some (.int k)) (hct : Try.prog.cellsOf t = n) (hce : Try.prog.cellsOf e = 1)
    (hval : Value.okWide Try.prog W .any b0 t v) (h : DataW.Trod enc Try.prog W base spare held t v d ps) :
    ∃ bs : List Int, bs.length = n ∧ (∀ z ∈ bs, (Lit.int k z).wf = true) ∧ v = .agg (bs.map (Value.int k)).toArray := by
  obtain ⟨cs, rfl, hsz, _⟩ : ∃ cs, v = .agg cs ∧ cs.size = Try.prog.cellsOf t ∧ Row.okWide Try.prog W .any b0 t cs := by
    simpa [Value.okWide, ht] using hval
  rw [hct] at hsz
  obtain ⟨fuel, hf⟩ := h
  obtain ⟨xs, m, _, _, hl, hxs, hel⟩ := DataW.trod_array ht hf
  obtain ⟨l⟩ := cs
  have hl' : l.length = n := hsz
  have hc : (Value.agg ⟨l⟩).cells.toList = l := rfl
  obtain ⟨bs, hb, hw⟩ := ints_of (k := k) l fun i hi => by
    have := hel i (by omega)
    rw [hc, hce, Nat.mul_one, List.getElem?_eq_getElem (by omega)] at this
    obtain ⟨z, hz, _, hzw⟩ := DataW.trod_int he this
    refine ⟨z, ?_, hzw⟩
    have h2 := congrArg (fun q => q[0]?) hz
    simpa [List.getElem?_take, List.getElem?_drop] using h2
  exact ⟨bs, by rw [hb] at hl'; simpa using hl', hw, by rw [hb]⟩

/-- What is known of a row of integers that came in. -/
def IsRow (k : IntKind) (w : World) (a : Option Addr) (len cap : Nat) (zs : List Int) : Prop :=
  (a = none ∧ len = 0 ∧ cap = 0 ∧ zs = []) ∨
  ∃ x, a = some x ∧ len ≤ cap ∧ cap ≤ maxLen ∧ zs.length = cap ∧ (∀ i, i < zs.length → w.cell? (x.add i) = some (.int k (zs.getD i 0))) ∧ ∀ n ∈ zs, (Lit.int k n).wf = true

end Go.Proofs.Ytkoackalpcmhaaa
/- Opening slices of integers at a law's call, as the machine takes them; and a law's call. Conditions: none. -/
namespace Go.Proofs.Ytkoackalpcmhaaa
set_option linter.unusedVariables false
set_option linter.unusedSimpArgs false
open Go Go.ChangeShapes Go.WideShapes Go.ChangeAt Go.RowKit

theorem has_lt {P : Program} {w : World} {r : Reach} {base : Nat} {a : Addr} {e : TypeId} {n : Nat} (h : w.has P r base a e n) : a.block < w.heap.size := by
  obtain ⟨_, _, row, cells, hs, _⟩ := h
  unfold World.shape? at hs
  split at hs
  · rename_i hb
    exact (Array.getElem?_eq_some_iff.1 hb).1
  all_goals first | cases hs | (rename_i hb; exact (Array.getElem?_eq_some_iff.1 hb).1)
/-- A slice of integers that comes in. -/
theorem open_sl {H : Type} {enc : TypeId × Value → H} {W : World} {base : Nat} {b0 : Nat} {spare : Nat → Bool} {held : Bool} {v : Value} {d : DataW H} {ps : List MemPlace} {t e : TypeId} {k : IntKind}
    (ht : Try.prog.underlying t = some (.slice e)) (he : Try.prog.underlying e = some (.int k)) (hce : Try.prog.cellsOf e = 1)
    (hval : Value.okWide Try.prog W .any b0 t v) (h : DataW.Trod enc Try.prog W base spare held t v d ps) :
    ∃ a cap, ∃ zs : List Int, v = .slice a zs.length cap ∧ Am.RowAt W ⟨a, cap⟩ k zs ∧ ∀ z ∈ zs, (Lit.int k z).wf = true := by
  obtain ⟨a, len, cap, rfl⟩ := okWide_slice ht hval
  have hlt : ∀ x, a = some x → x.block < W.heap.size := fun x hx => by
    subst hx
    simp only [Value.okWide, ht, Cell.okWide, Cell.ok] at hval
    exact has_lt hval.2.2
  obtain ⟨fuel, hf⟩ := h
  rcases open_ints ht he hce hf with ⟨hcs, _⟩ | ⟨x, l, c, zs, hcs, _, hl, hm, hz, _, hcell, hwz⟩
  · simp [Value.cells] at hcs
    obtain ⟨rfl, rfl, rfl⟩ := hcs
    exact ⟨none, 0, [], rfl, ⟨Nat.le_refl _, .inl rfl, fun x hx => by cases hx⟩, by simp⟩
  · simp [Value.cells] at hcs
    obtain ⟨rfl, rfl, rfl⟩ := hcs
    have hzl : len ≤ zs.length := by rw [hz]; split <;> omega
    have hlen : (zs.take len).length = len := by rw [List.length_take]; omega
    refine ⟨some x, cap, zs.take len, by rw [hlen], ⟨by rw [hlen]; exact hl, .inr ⟨x, rfl, fun j u hj => ?_⟩, hlt⟩, fun z hz' => hwz z (List.mem_of_mem_take hz')⟩
    have hjl : j < len := by
      have := (List.getElem?_eq_some_iff.1 hj).1
      rw [List.length_map, hlen] at this; exact this
    rw [List.getElem?_map, List.getElem?_take, if_pos hjl, List.getElem?_eq_getElem (by omega)] at hj
    simp only [Option.map_some, Option.some.injEq] at hj
    subst hj
    have := hcell j (by omega)
    simpa [List.getD_eq_getElem?_getD, List.getElem?_eq_getElem (show j < zs.length by omega)] using this
end Go.Proofs.Ytkoackalpcmhaaa
namespace Go.Proofs.Ytkoackalpcmhaaa.Am
open Go Go.RowKit
variable [GT]
omit [GT] in
/-- Rows that come in, as blocks to be read. -/
def rowsH : List (Loc × IntKind × List Int) → Nat → List (Nat × Blk)
  | [], _ => []
  | (_, k, zs) :: l, n => (n, ⟨2, 0, [.arr k zs]⟩) :: rowsH l (n + 1)
omit [GT] in
theorem rowsH_spec : ∀ (l : List (Loc × IntKind × List Int)) (n i : Nat) (b : Blk), look (rowsH l n) i = some b → n ≤ i ∧ i < n + l.length ∧ ∃ x, l[i - n]? = some x ∧ b = ⟨2, 0, [.arr x.2.1 x.2.2]⟩
  | [], n, i, b, h => by cases h
  | (g, k, zs) :: l, n, i, b, h => by
    simp only [rowsH, look_cons] at h
    by_cases hi : n = i
    · subst hi
      rw [if_pos rfl] at h
      injection h with h
      subst h
      exact ⟨Nat.le_refl _, by simp, (g, k, zs), by simp, rfl⟩
    · rw [if_neg hi] at h
      obtain ⟨h1, h2, x, hx, hb⟩ := rowsH_spec l (n + 1) i b h
      refine ⟨by omega, by simp only [List.length_cons]; omega, x, ?_, hb⟩
      rw [show i - n = (i - (n + 1)) + 1 by omega, List.getElem?_cons_succ]
      exact hx
theorem hr_rows {w : World} (l : List (Loc × IntKind × List Int)) (h : ∀ x ∈ l, RowAt w x.1 x.2.1 x.2.2) (hgw : GWok w.heap.size [] w) : HR (fun i => (l.map (·.1)).getD i ⟨none, 0⟩) (· < l.length) w.heap.size [] (look (rowsH l 0)) w := by
  have hall : ∀ i b, look (rowsH l 0) i = some b → i < l.length ∧ ∃ k zs, b = ⟨2, 0, [.arr k zs]⟩ ∧ RowAt w ((l.map (·.1)).getD i ⟨none, 0⟩) k zs := fun i b hb => by
    obtain ⟨_, h2, x, hx, rfl⟩ := rowsH_spec _ _ _ _ hb
    rw [Nat.sub_zero] at hx
    refine ⟨by omega, _, _, rfl, ?_⟩
    have e : (l.map (·.1)).getD i ⟨none, 0⟩ = x.1 := by simp [List.getD_eq_getElem?_getD, hx]
    rw [e]
    exact h x (List.mem_of_getElem? hx)
  refine ⟨Nat.le_refl _, fun i b hb => ?_, fun i b x hb hx => ?_, fun i b x hb hk hx => ?_, fun i j bi bj x y hi hj hij hk hx hy => ?_, hgw⟩
  · obtain ⟨h2, k, zs, rfl, h3, h4, _⟩ := hall i b hb
    refine ⟨h2, fun s hs => (by simp at hs; subst hs; trivial), ?_⟩
    show (segsVals _ _).length ≤ _ ∧ _
    rw [segsVals_one]
    refine ⟨by simpa [Seg.vals] using h3, ?_⟩
    rcases h4 with rfl | h4
    · exact .inl rfl
    · exact .inr h4
  · obtain ⟨_, k, zs, rfl, _, _, h5⟩ := hall i b hb
    exact h5 x hx
  · obtain ⟨_, k, zs, rfl, _⟩ := hall i b hb
    simp at hk
  · obtain ⟨_, k, zs, rfl, _⟩ := hall i bi hi
    simp at hk
/-- A law's run that ends in true. -/
theorem law_reach {f : FuncId} {fn : Func} (hf : Try.prog.funcs[f]? = some fn) {avs : List SV} {hp : List (Nat × Blk)} {k : Nat} {todo : List AI} {st : St} (hR : From Try.prog fn avs hp k [] todo st) (hfin : todo = [] ∨ todo = [.fin]) (hv : resVal tyT st fn.results.toList = some (ofV (.bool true))) (hlen : Nat.ble avs.length fn.ntmps = true) (hin : avs.all (svB fun i => Nat.blt i k) = true) {ρc : Nat → Loc} {w : World} (hG : HR ρc (· < k) w.heap.size [] (look hp) w) :
    Calls Try.prog f (avs.map (SV.conc ρc)).toArray w fun e w' => e = .returned (.bool true) ∧ Below w.heap.size w w' := by
  obtain ⟨c, hc, hRe⟩ := hR
  exact reach_val tyT_ok hf hc hfin hRe hv (by rfl) hlen (fun s hs => svB_in (f := fun i => Nat.blt i k) (fun i h => Nat.le_of_ble_eq_true h) (List.all_eq_true.1 hin s hs)) hG (fun _ => ⟨none, 0⟩)
omit [GT] in
theorem conc_s0 {ρ : Nat → Loc} {i n cap : Nat} : SV.conc ρ (.av (.one (.s i 0 n cap))) = .slice (ρ i).a n cap := by
  simp only [SV.conc, AV.conc, Seg.conc]
  cases (ρ i).a <;> simp [Addr.add]
end Go.Proofs.Ytkoackalpcmhaaa.Am
/- Law 05's Streams: the law. Conditions: none. -/
namespace Go.Proofs.Ytkoackalpcmhaaa.Am
set_option linter.unusedVariables false
set_option linter.unusedSimpArgs false
open Go Go.RowKit
set_option linter.unusedSectionVars false
variable [GT]
theorem strm_take (ks : List Int) : ∀ (m n : Nat) (b : List Int) (a : Nat), a ≤ 16 * m → m ≤ n → (strm ks n b).take a = (strm ks m b).take a
  | 0, n, b, a, h, _ => by
    have : a = 0 := by omega
    subst this
    rw [List.take_zero, List.take_zero]
  | m + 1, 0, b, a, _, h => by omega
  | m + 1, n + 1, b, a, h, h' => by
    unfold strm
    rw [List.take_append, List.take_append, encL_len, strm_take ks m n (nextL b) (a - 16) (by omega) (by omega)]
theorem strm_drop (ks : List Int) (n : Nat) (b : List Int) : (strm ks (n + 1) b).drop 16 = strm ks n (nextL b) := by
  have : strm ks (n + 1) b = encL ks b ++ strm ks n (nextL b) := rfl
  rw [this]
  have h := encL_len ks b
  rw [← h, List.drop_left]
theorem strOf_size (l : List Int) : (strOf l).size = l.length := by
  show (l.map _).toArray.size = _
  simp
theorem strOf_extract (l : List Int) (a : Nat) : (strOf l).extract 0 a = strOf (l.take a) := by
  apply ByteArray.ext
  rw [ByteArray.data_extract]
  apply Array.toList_inj.1
  simp [strOf]
theorem ls_ok (kf bf : Nat → Int) (p q : Int) (a c : Nat) (ha : a < 80) (hc : c < 80) (hp : Int.tmod p 80 = a) (hq : Int.tmod q 80 = c) (hk : ∀ j, inR (kf j)) : AllP (lsP kf bf p q a c) := by
  have n1 : (a + c + 16 + 15) / 16 = (a + c + 15) / 16 + 1 := by omega
  have S1 : (lsS kf bf ((a + c + 16 + 15) / 16)).length = 16 * ((a + c + 15) / 16 + 1) := by rw [n1]; exact strm_len _ _ _
  have S0 : (lsS kf bf ((a + 15) / 16)).length = 16 * ((a + 15) / 16) := strm_len _ _ _
  have X0 : (lsX kf bf ((a + 15) / 16)).length = 16 * ((a + 15) / 16) := strm_len _ _ _
  have e1 : (lsS kf bf ((a + c + 16 + 15) / 16)).take a = (lsS kf bf ((a + 15) / 16)).take a := strm_take _ _ _ _ _ (by omega) (by omega)
  have hs : slOff 0 16 (a + c + 16) (a + c + 16) 1 = if a + c + 16 = 16 then 0 else 16 := by
    rw [slOff_eq _ _ _ _ _ (by omega)]
  have hQ : lsQ kf bf a c = strOf ((lsX kf bf ((a + c + 15) / 16)).take (a + c)) := by
    unfold lsQ
    rw [hs, List.append_nil]
    by_cases h0 : a + c + 16 = 16
    · have z : a + c = 0 := by omega
      rw [show a + c + 16 - 16 = 0 by omega, z, List.take_zero, List.take_zero]
    · rw [if_neg h0, n1, show a + c + 16 - 16 = a + c by omega]
      have : (lsS kf bf ((a + c + 15) / 16 + 1)).drop 16 = lsX kf bf ((a + c + 15) / 16) := strm_drop _ _ _
      rw [this]
  have X1 : (lsX kf bf ((a + c + 15) / 16)).length = 16 * ((a + c + 15) / 16) := strm_len _ _ _
  have e2 : (lsX kf bf ((a + c + 15) / 16)).take a = (lsX kf bf ((a + 15) / 16)).take a := strm_take _ _ _ _ _ (by omega) (by omega)
  have hQs : (lsQ kf bf a c).size = a + c := by
    rw [hQ, strOf_size, List.length_take, X1]
    omega
  have hQe : (lsQ kf bf a c).extract 0 a = strOf ((lsX kf bf ((a + 15) / 16)).take a ++ []) := by
    rw [hQ, strOf_extract, List.take_take, Nat.min_eq_left (by omega), e2, List.append_nil]
  have wp : tI .i64 (IntKind.i64.wrap (Int.tmod p 80)) (a : Nat) := by rw [hp, tI_64]; omega
  have wq : tI .i64 (IntKind.i64.wrap (Int.tmod q 80)) (c : Nat) := by rw [hq, tI_64]; omega
  have w1 : tI .i64 (IntKind.i64.wrap (((a + c + 16 : Nat) : Int) - 16)) ((a + c : Nat) : Int) := by
    rw [show ((a + c + 16 : Nat) : Int) - 16 = ((a + c : Nat) : Int) by omega, tI_64]; omega
  have w2 : tI .i64 (if ((a + c : Nat) : Int) < (a : Int) then ((a + c : Nat) : Int) else (a : Int)) (a : Int) := by
    rw [if_neg (by omega), tI_iff]
  refine ⟨⟨Nat.le_refl _, fun j hj => ?_⟩, wp, ⟨rfl, by omega, by omega⟩, wq, ?_, ?_, ⟨rfl, by omega, by omega⟩, ⟨rfl, by omega, by omega⟩, tB_eq.2 rfl, Nat.le_refl _, ⟨by omega, by omega⟩, by rw [widths_o, S1]; omega, by rw [widths_o, S0]; omega, ?_, w1, w2, Nat.le_refl _, ⟨by omega, Nat.le_refl _⟩, by rw [widths_o, X0]; omega, Nat.le_refl _, ⟨by omega, by omega⟩, ?_, w1, w2, ⟨by omega, by rw [hQs]; omega⟩, ?_, trivial⟩
  · rw [Nat.zero_add, g2_keyL 32 _ j hj]
    exact hk j
  · rw [show (a : Int) + (c : Int) = ((a + c : Nat) : Int) by omega, tI_64]; omega
  · rw [show ((a + c : Nat) : Int) + 16 = ((a + c + 16 : Nat) : Int) by omega, tI_64]; omega
  · rw [e1, tB_iff, beq_self_eq_true]
  · rw [hs, widths_o, S1]
    split <;> omega
  · rw [hQe, tB_iff, beq_self_eq_true]
theorem lawStreams_fact (key b s : List Int) (lk : key.length = 32) (lb : b.length = 16) (ls : s.length = 2) (wk : ∀ z ∈ key, (Lit.int .u8 z).wf = true) (ws : ∀ z ∈ s, (Lit.int .u8 z).wf = true) {W : World} (hgw : GWok W.heap.size [] W) : Calls Try.prog 7 #[.agg (key.map (Value.int .u8)).toArray, .agg (b.map (Value.int .u8)).toArray, .agg (s.map (Value.int .u8)).toArray] W fun e w' => e = .returned (.bool true) ∧ Below W.heap.size W w' := by
  obtain ⟨p, q, rfl⟩ : ∃ p q, s = [p, q] := by
    match s, ls with
    | [p, q], _ => exact ⟨p, q, rfl⟩
  have rp := wf_inR (ws p (by simp))
  have rq := wf_inR (ws q (by simp))
  obtain ⟨p0, p1⟩ := rp
  obtain ⟨q0, q1⟩ := rq
  have hp : Int.tmod p 80 = ((p.toNat % 80 : Nat) : Int) := by rw [Int.tmod_eq_emod_of_nonneg p0]; omega
  have hq : Int.tmod q 80 = ((q.toNat % 80 : Nat) : Int) := by rw [Int.tmod_eq_emod_of_nonneg q0]; omega
  have hR := From.run tyT_ok lsO_ok mixed_ (ls_run (g2 key) (g2 b) p q (p.toNat % 80) (q.toNat % 80)) (ls_ok (g2 key) (g2 b) p q _ _ (Nat.mod_lt _ (by decide)) (Nat.mod_lt _ (by decide)) hp hq (wf_g2 wk))
  have := law_reach Try.func7 hR (.inr rfl) (by kernel_rfl) (by kernel_rfl) (by kernel_rfl) (hr_rows [] (fun x hx => by cases hx) hgw)
  simp only [lsA, List.map_cons, List.map_nil, keyL_g2 lk, keyL_g2 lb] at this
  exact this
end Go.Proofs.Ytkoackalpcmhaaa.Am
/- No variable of the package is known: none is read. Conditions: none. -/
namespace Go.Proofs.Ytkoackalpcmhaaa.Am
set_option linter.unusedVariables false
set_option linter.unusedSimpArgs false
open Go
instance gt0 : GT := ⟨[]⟩
theorem gw0 {N : Nat} {M : List Nat} {w : World} : GWok N M w := fun x h => by cases h
end Go.Proofs.Ytkoackalpcmhaaa.Am
