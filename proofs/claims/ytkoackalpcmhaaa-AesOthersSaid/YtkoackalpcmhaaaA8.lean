/- The cipher: New's contract. Conditions: none. -/
import Derived.Test.YtkoackalpcmhaaaA6
import Derived.Test.YtkoackalpcmhaaaA7
namespace Go.Proofs.Ytkoackalpcmhaaa.Am
set_option linter.unusedVariables false
set_option linter.unusedSimpArgs false
open Go Go.RowKit

def xsN : Nat → Int
  | 0 => 1
  | i + 1 => newX (xsN i) i
def wsN (kb : Nat → Int) : Nat → (Nat → Int)
  | 0 => fun _ => 0
  | i + 1 => updW (wsN kb i) i (newW kb (wsN kb i) (xsN i) i)
theorem wx2_range (l : List Int) : ∀ x ∈ wx l 2, inR x := fun x hx => by
  simp only [wx, List.mem_cons, List.not_mem_nil, or_false] at hx
  rcases hx with rfl | rfl | rfl | rfl <;> exact bx_range _ _
theorem wsN_range {kb : Nat → Int} (hk : ∀ j, j < 32 → inR (kb j)) : ∀ i j, inR (wsN kb i j)
  | 0, j => ⟨Int.le_refl _, Nat.zero_le _⟩
  | i + 1, j => by
    unfold wsN updW
    split
    · refine g2_range (fun x hx => ?_) _
      unfold newW at hx
      split at hx
      · rename_i hi
        have hi : i + 1 ≤ 8 := Nat.le_of_ble_eq_true hi
        simp only [w4, List.mem_cons, List.not_mem_nil, or_false] at hx
        rcases hx with rfl | rfl | rfl | rfl <;> exact hk _ (by omega)
      · split at hx <;> exact wx2_range _ x hx
    · exact wsN_range hk i j
theorem rP_ok {z : Int} (h : inR z) : AllP (rP z) := ⟨h, by have := h.2; have : sbox.length = 256 := by decide +kernel
                                                            omega, trivial⟩
theorem AllP_append : ∀ {l m : List Prop}, AllP l → AllP m → AllP (l ++ m)
  | [], _, _, h => h
  | _ :: _, _, h, k => ⟨h.1, AllP_append h.2 k⟩
theorem newP_ok {cap : Nat} {W : Nat → Int} (hc : 32 ≤ cap) (hW : ∀ j, inR (W j)) (i : Nat) : AllP (newP cap W i) := by
  unfold newP
  split
  · rename_i hi
    have hi : i + 1 ≤ 8 := Nat.le_of_ble_eq_true hi
    exact ⟨hc, ⟨by omega, by omega⟩, ⟨by omega, by omega⟩, trivial⟩
  · split
    · exact AllP_append (rP_ok (hW _)) (AllP_append (rP_ok (hW _)) (AllP_append (rP_ok (hW _)) (rP_ok (hW _))))
    · exact AllP_append (rP_ok (hW _)) (AllP_append (rP_ok (hW _)) (AllP_append (rP_ok (hW _)) (rP_ok (hW _))))
    · trivial
theorem n_step (kb : Nat → Int) (cap : Nat) (hc : 32 ≤ cap) (hk : ∀ j, j < 32 → inR (kb j)) (n : Nat) : ∀ i, i < 60 → Reaches Try.prog 0 (.hd (n + 1) nX :: nK) (nS kb cap (wsN kb i) (xsN i) i) (.hd n nX :: nK) (nS kb cap (wsN kb (i + 1)) (xsN (i + 1)) (i + 1))
  | 0, _ => Reaches.round (reach_run tyT_ok nO_ok mixed_ (n_round0 kb (wsN kb 0) cap (xsN 0) n) (newP_ok hc (wsN_range hk 0) 0) rfl)
  | 1, _ => Reaches.round (reach_run tyT_ok nO_ok mixed_ (n_round1 kb (wsN kb 1) cap (xsN 1) n) (newP_ok hc (wsN_range hk 1) 1) rfl)
  | 2, _ => Reaches.round (reach_run tyT_ok nO_ok mixed_ (n_round2 kb (wsN kb 2) cap (xsN 2) n) (newP_ok hc (wsN_range hk 2) 2) rfl)
  | 3, _ => Reaches.round (reach_run tyT_ok nO_ok mixed_ (n_round3 kb (wsN kb 3) cap (xsN 3) n) (newP_ok hc (wsN_range hk 3) 3) rfl)
  | 4, _ => Reaches.round (reach_run tyT_ok nO_ok mixed_ (n_round4 kb (wsN kb 4) cap (xsN 4) n) (newP_ok hc (wsN_range hk 4) 4) rfl)
  | 5, _ => Reaches.round (reach_run tyT_ok nO_ok mixed_ (n_round5 kb (wsN kb 5) cap (xsN 5) n) (newP_ok hc (wsN_range hk 5) 5) rfl)
  | 6, _ => Reaches.round (reach_run tyT_ok nO_ok mixed_ (n_round6 kb (wsN kb 6) cap (xsN 6) n) (newP_ok hc (wsN_range hk 6) 6) rfl)
  | 7, _ => Reaches.round (reach_run tyT_ok nO_ok mixed_ (n_round7 kb (wsN kb 7) cap (xsN 7) n) (newP_ok hc (wsN_range hk 7) 7) rfl)
  | 8, _ => Reaches.round (reach_run tyT_ok nO_ok mixed_ (n_round8 kb (wsN kb 8) cap (xsN 8) n) (newP_ok hc (wsN_range hk 8) 8) rfl)
  | 9, _ => Reaches.round (reach_run tyT_ok nO_ok mixed_ (n_round9 kb (wsN kb 9) cap (xsN 9) n) (newP_ok hc (wsN_range hk 9) 9) rfl)
  | 10, _ => Reaches.round (reach_run tyT_ok nO_ok mixed_ (n_round10 kb (wsN kb 10) cap (xsN 10) n) (newP_ok hc (wsN_range hk 10) 10) rfl)
  | 11, _ => Reaches.round (reach_run tyT_ok nO_ok mixed_ (n_round11 kb (wsN kb 11) cap (xsN 11) n) (newP_ok hc (wsN_range hk 11) 11) rfl)
  | 12, _ => Reaches.round (reach_run tyT_ok nO_ok mixed_ (n_round12 kb (wsN kb 12) cap (xsN 12) n) (newP_ok hc (wsN_range hk 12) 12) rfl)
  | 13, _ => Reaches.round (reach_run tyT_ok nO_ok mixed_ (n_round13 kb (wsN kb 13) cap (xsN 13) n) (newP_ok hc (wsN_range hk 13) 13) rfl)
  | 14, _ => Reaches.round (reach_run tyT_ok nO_ok mixed_ (n_round14 kb (wsN kb 14) cap (xsN 14) n) (newP_ok hc (wsN_range hk 14) 14) rfl)
  | 15, _ => Reaches.round (reach_run tyT_ok nO_ok mixed_ (n_round15 kb (wsN kb 15) cap (xsN 15) n) (newP_ok hc (wsN_range hk 15) 15) rfl)
  | 16, _ => Reaches.round (reach_run tyT_ok nO_ok mixed_ (n_round16 kb (wsN kb 16) cap (xsN 16) n) (newP_ok hc (wsN_range hk 16) 16) rfl)
  | 17, _ => Reaches.round (reach_run tyT_ok nO_ok mixed_ (n_round17 kb (wsN kb 17) cap (xsN 17) n) (newP_ok hc (wsN_range hk 17) 17) rfl)
  | 18, _ => Reaches.round (reach_run tyT_ok nO_ok mixed_ (n_round18 kb (wsN kb 18) cap (xsN 18) n) (newP_ok hc (wsN_range hk 18) 18) rfl)
  | 19, _ => Reaches.round (reach_run tyT_ok nO_ok mixed_ (n_round19 kb (wsN kb 19) cap (xsN 19) n) (newP_ok hc (wsN_range hk 19) 19) rfl)
  | 20, _ => Reaches.round (reach_run tyT_ok nO_ok mixed_ (n_round20 kb (wsN kb 20) cap (xsN 20) n) (newP_ok hc (wsN_range hk 20) 20) rfl)
  | 21, _ => Reaches.round (reach_run tyT_ok nO_ok mixed_ (n_round21 kb (wsN kb 21) cap (xsN 21) n) (newP_ok hc (wsN_range hk 21) 21) rfl)
  | 22, _ => Reaches.round (reach_run tyT_ok nO_ok mixed_ (n_round22 kb (wsN kb 22) cap (xsN 22) n) (newP_ok hc (wsN_range hk 22) 22) rfl)
  | 23, _ => Reaches.round (reach_run tyT_ok nO_ok mixed_ (n_round23 kb (wsN kb 23) cap (xsN 23) n) (newP_ok hc (wsN_range hk 23) 23) rfl)
  | 24, _ => Reaches.round (reach_run tyT_ok nO_ok mixed_ (n_round24 kb (wsN kb 24) cap (xsN 24) n) (newP_ok hc (wsN_range hk 24) 24) rfl)
  | 25, _ => Reaches.round (reach_run tyT_ok nO_ok mixed_ (n_round25 kb (wsN kb 25) cap (xsN 25) n) (newP_ok hc (wsN_range hk 25) 25) rfl)
  | 26, _ => Reaches.round (reach_run tyT_ok nO_ok mixed_ (n_round26 kb (wsN kb 26) cap (xsN 26) n) (newP_ok hc (wsN_range hk 26) 26) rfl)
  | 27, _ => Reaches.round (reach_run tyT_ok nO_ok mixed_ (n_round27 kb (wsN kb 27) cap (xsN 27) n) (newP_ok hc (wsN_range hk 27) 27) rfl)
  | 28, _ => Reaches.round (reach_run tyT_ok nO_ok mixed_ (n_round28 kb (wsN kb 28) cap (xsN 28) n) (newP_ok hc (wsN_range hk 28) 28) rfl)
  | 29, _ => Reaches.round (reach_run tyT_ok nO_ok mixed_ (n_round29 kb (wsN kb 29) cap (xsN 29) n) (newP_ok hc (wsN_range hk 29) 29) rfl)
  | 30, _ => Reaches.round (reach_run tyT_ok nO_ok mixed_ (n_round30 kb (wsN kb 30) cap (xsN 30) n) (newP_ok hc (wsN_range hk 30) 30) rfl)
  | 31, _ => Reaches.round (reach_run tyT_ok nO_ok mixed_ (n_round31 kb (wsN kb 31) cap (xsN 31) n) (newP_ok hc (wsN_range hk 31) 31) rfl)
  | 32, _ => Reaches.round (reach_run tyT_ok nO_ok mixed_ (n_round32 kb (wsN kb 32) cap (xsN 32) n) (newP_ok hc (wsN_range hk 32) 32) rfl)
  | 33, _ => Reaches.round (reach_run tyT_ok nO_ok mixed_ (n_round33 kb (wsN kb 33) cap (xsN 33) n) (newP_ok hc (wsN_range hk 33) 33) rfl)
  | 34, _ => Reaches.round (reach_run tyT_ok nO_ok mixed_ (n_round34 kb (wsN kb 34) cap (xsN 34) n) (newP_ok hc (wsN_range hk 34) 34) rfl)
  | 35, _ => Reaches.round (reach_run tyT_ok nO_ok mixed_ (n_round35 kb (wsN kb 35) cap (xsN 35) n) (newP_ok hc (wsN_range hk 35) 35) rfl)
  | 36, _ => Reaches.round (reach_run tyT_ok nO_ok mixed_ (n_round36 kb (wsN kb 36) cap (xsN 36) n) (newP_ok hc (wsN_range hk 36) 36) rfl)
  | 37, _ => Reaches.round (reach_run tyT_ok nO_ok mixed_ (n_round37 kb (wsN kb 37) cap (xsN 37) n) (newP_ok hc (wsN_range hk 37) 37) rfl)
  | 38, _ => Reaches.round (reach_run tyT_ok nO_ok mixed_ (n_round38 kb (wsN kb 38) cap (xsN 38) n) (newP_ok hc (wsN_range hk 38) 38) rfl)
  | 39, _ => Reaches.round (reach_run tyT_ok nO_ok mixed_ (n_round39 kb (wsN kb 39) cap (xsN 39) n) (newP_ok hc (wsN_range hk 39) 39) rfl)
  | 40, _ => Reaches.round (reach_run tyT_ok nO_ok mixed_ (n_round40 kb (wsN kb 40) cap (xsN 40) n) (newP_ok hc (wsN_range hk 40) 40) rfl)
  | 41, _ => Reaches.round (reach_run tyT_ok nO_ok mixed_ (n_round41 kb (wsN kb 41) cap (xsN 41) n) (newP_ok hc (wsN_range hk 41) 41) rfl)
  | 42, _ => Reaches.round (reach_run tyT_ok nO_ok mixed_ (n_round42 kb (wsN kb 42) cap (xsN 42) n) (newP_ok hc (wsN_range hk 42) 42) rfl)
  | 43, _ => Reaches.round (reach_run tyT_ok nO_ok mixed_ (n_round43 kb (wsN kb 43) cap (xsN 43) n) (newP_ok hc (wsN_range hk 43) 43) rfl)
  | 44, _ => Reaches.round (reach_run tyT_ok nO_ok mixed_ (n_round44 kb (wsN kb 44) cap (xsN 44) n) (newP_ok hc (wsN_range hk 44) 44) rfl)
  | 45, _ => Reaches.round (reach_run tyT_ok nO_ok mixed_ (n_round45 kb (wsN kb 45) cap (xsN 45) n) (newP_ok hc (wsN_range hk 45) 45) rfl)
  | 46, _ => Reaches.round (reach_run tyT_ok nO_ok mixed_ (n_round46 kb (wsN kb 46) cap (xsN 46) n) (newP_ok hc (wsN_range hk 46) 46) rfl)
  | 47, _ => Reaches.round (reach_run tyT_ok nO_ok mixed_ (n_round47 kb (wsN kb 47) cap (xsN 47) n) (newP_ok hc (wsN_range hk 47) 47) rfl)
  | 48, _ => Reaches.round (reach_run tyT_ok nO_ok mixed_ (n_round48 kb (wsN kb 48) cap (xsN 48) n) (newP_ok hc (wsN_range hk 48) 48) rfl)
  | 49, _ => Reaches.round (reach_run tyT_ok nO_ok mixed_ (n_round49 kb (wsN kb 49) cap (xsN 49) n) (newP_ok hc (wsN_range hk 49) 49) rfl)
  | 50, _ => Reaches.round (reach_run tyT_ok nO_ok mixed_ (n_round50 kb (wsN kb 50) cap (xsN 50) n) (newP_ok hc (wsN_range hk 50) 50) rfl)
  | 51, _ => Reaches.round (reach_run tyT_ok nO_ok mixed_ (n_round51 kb (wsN kb 51) cap (xsN 51) n) (newP_ok hc (wsN_range hk 51) 51) rfl)
  | 52, _ => Reaches.round (reach_run tyT_ok nO_ok mixed_ (n_round52 kb (wsN kb 52) cap (xsN 52) n) (newP_ok hc (wsN_range hk 52) 52) rfl)
  | 53, _ => Reaches.round (reach_run tyT_ok nO_ok mixed_ (n_round53 kb (wsN kb 53) cap (xsN 53) n) (newP_ok hc (wsN_range hk 53) 53) rfl)
  | 54, _ => Reaches.round (reach_run tyT_ok nO_ok mixed_ (n_round54 kb (wsN kb 54) cap (xsN 54) n) (newP_ok hc (wsN_range hk 54) 54) rfl)
  | 55, _ => Reaches.round (reach_run tyT_ok nO_ok mixed_ (n_round55 kb (wsN kb 55) cap (xsN 55) n) (newP_ok hc (wsN_range hk 55) 55) rfl)
  | 56, _ => Reaches.round (reach_run tyT_ok nO_ok mixed_ (n_round56 kb (wsN kb 56) cap (xsN 56) n) (newP_ok hc (wsN_range hk 56) 56) rfl)
  | 57, _ => Reaches.round (reach_run tyT_ok nO_ok mixed_ (n_round57 kb (wsN kb 57) cap (xsN 57) n) (newP_ok hc (wsN_range hk 57) 57) rfl)
  | 58, _ => Reaches.round (reach_run tyT_ok nO_ok mixed_ (n_round58 kb (wsN kb 58) cap (xsN 58) n) (newP_ok hc (wsN_range hk 58) 58) rfl)
  | 59, _ => Reaches.round (reach_run tyT_ok nO_ok mixed_ (n_round59 kb (wsN kb 59) cap (xsN 59) n) (newP_ok hc (wsN_range hk 59) 59) rfl)
  | i + 60, h => by omega
theorem n_steps (kb : Nat → Int) (cap : Nat) (hc : 32 ≤ cap) (hk : ∀ j, j < 32 → inR (kb j)) (n : Nat) : ∀ i, i ≤ 60 → Reaches Try.prog 0 (.hd (n + i) nX :: nK) (nS kb cap (wsN kb 0) (xsN 0) 0) (.hd n nX :: nK) (nS kb cap (wsN kb i) (xsN i) i)
  | 0, _ => Reaches.refl
  | i + 1, h => by
    have := n_steps kb cap hc hk (n + 1) i (by omega)
    rw [show n + 1 + i = n + (i + 1) by omega] at this
    exact this.trans (n_step kb cap hc hk n i (by omega))
theorem n_reach (kb : Nat → Int) (cap : Nat) (hc : 32 ≤ cap) (hk : ∀ j, j < 32 → inR (kb j)) {c : Code} (hb : Try.f11.body = some c) : Reaches Try.prog 0 [.code c] (start (nArgs cap) 89 (nHp kb) 1 []) [.fin] (nEnd kb (wsN kb 60)) :=
  (reach_run tyT_ok nO_ok mixed_ (n_start kb cap hb) trivial rfl).trans (Reaches.loop (1 + 60) ((n_steps kb cap hc hk 1 60 (Nat.le_refl _)).trans (Reaches.round (reach_run tyT_ok nO_ok mixed_ (n_end kb (wsN kb 60) cap (xsN 60) 0) trivial rfl))))
/-- The key's words of these bytes. -/
def schedW (zs : List Int) (off : Nat) : Nat → Int := wsN (fun j => g2 zs (off + j)) 60
def eNew : Ent := fun args G base => match args with
  | [.av (.one (.s id off n cap))] => match G id with
    | some b => match intsOf .u8 b.c with
      | some zs => match Nat.beq n 32 && Nat.ble (off + 32) zs.length with
        | true => some { val := .tup [.one (.p (base + 1) 0), .one (.v (.int .i64 0))], new := [⟨0, 66, [.arr .u8 sbox]⟩, ⟨0, 53, .p (base + 0) 0 :: pieces (schedW zs off) 60⟩], asm := .say (32 ≤ cap ∧ ∀ j, j < 32 → inR (g2 zs (off + j))) }
        | false => none
      | none => none
    | none => none
  | _ => none
theorem renL_pieces (f : Nat → Nat) (W : Nat → Int) : ∀ l : List Nat, renL f (l.map (piece W)) = l.map (piece W)
  | [] => rfl
  | x :: l => by rw [List.map_cons, renL, renL_pieces f W l]; rfl
theorem new_ent : EntOK Try.prog 11 eNew := by
  refine ⟨⟨_, Try.func11, by kernel_rfl, by kernel_rfl⟩, fun args G base res hr ha ρ D N M w hG hin hfr => ?_⟩
  unfold eNew at hr
  split at hr
  · rename_i id off n cap
    split at hr
    · rename_i b hb
      split at hr
      · rename_i zs hz
        split at hr
        · rename_i hn
          rw [Bool.and_eq_true] at hn
          have e1 := Nat.eq_of_beq_eq_true hn.1
          have hle := Nat.le_of_ble_eq_true hn.2
          subst e1
          simp only [Option.some.injEq] at hr
          subst hr
          obtain ⟨hcap, hk⟩ : 32 ≤ cap ∧ ∀ j, j < 32 → inR (g2 zs (off + j)) := ha
          obtain ⟨kb, hkb⟩ : ∃ kb : Nat → Int, kb = fun j => g2 zs (off + j) := ⟨_, rfl⟩
          have hk' : ∀ j, j < 32 → inR (kb j) := fun j hj => by rw [hkb]; exact hk j hj
          obtain ⟨ρc, hρc⟩ : ∃ ρc : Nat → Loc, ρc = fun _ => ⟨(ρ id).a.map (·.add off), 32⟩ := ⟨_, rfl⟩
          have hv := intsOf_spec ρ _ _ hz
          have hcell : ∀ j, j < 32 → ∃ x, (ρ id).a = some x ∧ w.cell? (x.add (off + j)) = some (.int .u8 (kb j)) := fun j hj => by
            refine (hG.blk id b hb).2.2.cells ?_
            rw [hv, List.getElem?_map, List.getElem?_eq_getElem (by omega), hkb]
            simp [g2, List.getD_eq_getElem?_getD, List.getElem?_eq_getElem (show off + j < zs.length by omega)]
          obtain ⟨y, hy, _⟩ := hcell 0 (by omega)
          have hH : HR ρc (· < 1) w.heap.size [] (look (nHp kb)) w := by
            refine ⟨Nat.le_refl _, fun i b' hb' => ?_, fun i b' x hb' hx => ?_, fun i b' x hb' hk hx => ?_, fun i j bi bj x y hi hj hij hk hx hy => ?_⟩
            · unfold nHp at hb'
              rw [look_cons] at hb'
              split at hb'
              · rename_i hi
                injection hb' with hb'
                subst hb'
                refine ⟨by omega, (fun s hs => (by simp at hs; subst hs; trivial)), ?_⟩
                show (segsVals ρc [.arr .u8 (keyL 32 kb)]).length ≤ (ρc i).cap ∧ _
                rw [segsVals_one]
                have hl : (Seg.vals ρc (.arr .u8 (keyL 32 kb))) = (keyL 32 kb).map (Value.int .u8) := rfl
                rw [hl, hρc]
                refine ⟨by rw [List.length_map, keyL_len]; exact Nat.le_refl _, .inr ⟨y.add off, by simp only [hy, Option.map_some], fun j u hj => ?_⟩⟩
                have hj32 : j < 32 := by
                  rcases Nat.lt_or_ge j 32 with h | h
                  · exact h
                  · rw [List.getElem?_eq_none (by rw [List.length_map, keyL_len]; exact h)] at hj; cases hj
                rw [List.getElem?_map, keyL_get 32 kb j hj32] at hj
                injection hj with hj
                subst hj
                obtain ⟨y', hy', hc⟩ := hcell j hj32
                rw [hy] at hy'
                injection hy' with hy'
                subst hy'
                rw [add_add]
                exact hc
              · cases hb'
            · rw [hρc] at hx
              simp only [hy, Option.map_some, Option.some.injEq] at hx
              subst hx
              have := hG.lt id b y hb hy
              have e : (y.add off).block = y.block := by unfold Addr.add; split <;> rfl
              rw [e]; exact this
            · unfold nHp at hb'
              rw [look_cons] at hb'
              split at hb'
              · injection hb' with hb'; subst hb'; simp at hk
              · cases hb'
            · unfold nHp at hi
              rw [look_cons] at hi
              split at hi
              · injection hi with hi; subst hi; simp at hk
              · cases hi
          obtain ⟨c, hc⟩ : ∃ c, Try.f11.body = some c := Option.isSome_iff_exists.1 (by kernel_rfl)
          have hcall := reach_new (D := D) (N := N) (M := M) (G := G) (base := base) (ρ := ρ) tyT_ok Try.func11 hc (avs := nArgs cap) (.inr rfl) (n_reach kb cap hcap hk' hc) (v := .tup [.one (.p 2 0), .one (.v (.int .i64 0))]) (by kernel_rfl) (es := [1, 2]) (by kernel_rfl) (by kernel_rfl) (by kernel_rfl) (by kernel_rfl) (fun s hs => by
            simp only [nArgs, List.mem_cons, List.not_mem_nil, or_false] at hs
            subst hs
            exact fun s hs => (by simp [AV.segs] at hs; subst hs; exact (show (0 : Nat) < 1 by omega))) hH hG hfr (r := { val := .tup [.one (.p (base + 1) 0), .one (.v (.int .i64 0))], new := [⟨0, 66, [.arr .u8 sbox]⟩, ⟨0, 53, .p (base + 0) 0 :: pieces (wsN kb 60) 60⟩] }) (by kernel_rfl)
          have e : (nArgs cap).map (SV.conc ρc) = [SV.av (.one (.s id off 32 cap))].map (SV.conc ρ) := by
            simp only [nArgs, List.map_cons, List.map_nil, SV.conc, AV.conc, Seg.conc, hρc, hy, Option.map_some, add_add, Nat.add_zero]
          rw [e] at hcall
          have e2 : schedW zs off = wsN kb 60 := by rw [hkb]; rfl
          rw [e2]
          refine hcall.mono fun e w' ⟨v, h1, ρ', hF⟩ => ⟨v, h1, ρ', ⟨hF.agree, hF.val, hF.hr, hF.kept, hF.fresh⟩⟩
        · cases hr
      · cases hr
    · cases hr
  · cases hr
end Go.Proofs.Ytkoackalpcmhaaa.Am
