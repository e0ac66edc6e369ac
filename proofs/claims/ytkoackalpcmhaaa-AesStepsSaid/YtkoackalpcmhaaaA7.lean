/- The cipher: Block's contract. Conditions: none. -/
import Derived.Test.YtkoackalpcmhaaaA5
namespace Go.Proofs.Ytkoackalpcmhaaa.Am
set_option linter.unusedVariables false
set_option linter.unusedSimpArgs false
open Go Go.RowKit

theorem upTo_len : ∀ i n : Nat, (upTo i n).length = n
  | _, 0 => rfl
  | i, n + 1 => by simp [upTo, upTo_len (i + 1) n]
theorem upTo_get : ∀ (i n j : Nat), j < n → (upTo i n)[j]? = some (i + j)
  | _, 0, _, h => by omega
  | i, n + 1, 0, _ => rfl
  | i, n + 1, j + 1, h => by
    rw [upTo, List.getElem?_cons_succ, upTo_get (i + 1) n j (by omega)]
    congr 1
    omega
theorem keyL_len (n : Nat) (f : Nat → Int) : (keyL n f).length = n := by simp [keyL, upTo_len]
theorem keyL_get (n : Nat) (f : Nat → Int) (j : Nat) (h : j < n) : (keyL n f)[j]? = some (f j) := by
  rw [keyL, List.getElem?_map, upTo_get 0 n j h, Nat.zero_add]
  rfl
theorem keyL_g2 {n : Nat} {l : List Int} (h : l.length = n) : keyL n (g2 l) = l := by
  refine List.ext_getElem? fun j => ?_
  by_cases hj : j < n
  · rw [keyL_get n _ j hj, g2, List.getD_eq_getElem?_getD, List.getElem?_eq_getElem (by omega)]
    rfl
  · rw [List.getElem?_eq_none (by rw [keyL_len]; omega), List.getElem?_eq_none (by omega)]
theorem g2_keyL (n : Nat) (f : Nat → Int) (j : Nat) (h : j < n) : g2 (keyL n f) j = f j := by
  rw [g2, List.getD_eq_getElem?_getD, keyL_get n f j h]
  rfl
theorem keyL_congr {n : Nat} {f g : Nat → Int} (h : ∀ j, j < n → f j = g j) : keyL n f = keyL n g := by
  refine List.ext_getElem? fun j => ?_
  by_cases hj : j < n
  · rw [keyL_get n _ j hj, keyL_get n _ j hj, h j hj]
  · rw [List.getElem?_eq_none (by rw [keyL_len]; omega), List.getElem?_eq_none (by rw [keyL_len]; omega)]

/-- A block's, by key's words and bytes. -/
def encL (ks bs : List Int) : List Int := keyL 16 (encG (g2 ks) (g2 bs))
def eBlock : Ent := fun args G _ => match args with
  | [.av (.one (.p id 0)), .av b] => match G id with
    | some ⟨_, _, .p bid 0 :: rest⟩ => match G bid, intsOf .u8 rest, intsOf .u8 b.segs, aggB b with
      | some bb, some ks, some bs, true => match intsOf .u8 bb.c, Nat.beq ks.length 240 && Nat.beq bs.length 16 with
        | some l, true => some { val := .av (.one (.arr .u8 (encL ks bs))), asm := .say (l = sbox) }
        | _, _ => none
      | _, _, _, _ => none
    | _ => none
  | _ => none
theorem block_ent : EntOK Try.prog 13 eBlock := by
  refine ⟨⟨_, Try.func13, by kernel_rfl, by kernel_rfl⟩, fun args G base res hr ha ρ D N M w hG hin hfr => ?_⟩
  unfold eBlock at hr
  split at hr
  · rename_i id b
    split at hr
    · rename_i k ty bid rest hb
      split at hr
      · rename_i bb ks bs hbb hks hbs hagg
        split at hr
        · rename_i l hl hlen
          rw [Bool.and_eq_true] at hlen
          have hk := Nat.eq_of_beq_eq_true hlen.1
          have hs := Nat.eq_of_beq_eq_true hlen.2
          simp only [Option.some.injEq] at hr
          subst hr
          have ha : l = sbox := ha
          subst ha
          obtain ⟨ρc, hρc⟩ : ∃ ρc : Nat → Loc, ρc = fun i => if i = 0 then ⟨(ρ bid).a, widths bb.c⟩ else ⟨(ρ id).a, widths (.p bid 0 :: rest)⟩ := ⟨_, rfl⟩
          have h0 : ρc 0 = ⟨(ρ bid).a, widths bb.c⟩ := by rw [hρc]; rfl
          have h1 : ρc 1 = ⟨(ρ id).a, widths (.p bid 0 :: rest)⟩ := by rw [hρc]; rfl
          have hH : HR ρc (· < 2) w.heap.size [] (look (bHp (g2 ks))) w := by
            refine hr_ros hG fun i b' hb' => ?_
            unfold bHp at hb'
            rw [look_cons, look_cons] at hb'
            by_cases hi : 0 = i
            · subst hi
              rw [if_pos rfl] at hb'
              injection hb' with hb'
              subst hb'
              exact ⟨rfl, by omega, fun s hs => (by simp at hs; subst hs; trivial), bid, bb, hbb, h0, by rw [intsOf_spec ρ _ _ hl, segsVals_one]; rfl⟩
            · rw [if_neg hi] at hb'
              by_cases hi1 : 1 = i
              · subst hi1
                rw [if_pos rfl] at hb'
                injection hb' with hb'
                subst hb'
                refine ⟨rfl, by omega, fun s hs => ?_, id, _, hb, h1, ?_⟩
                · simp only [List.mem_cons, List.not_mem_nil, or_false] at hs
                  rcases hs with rfl | rfl
                  · exact (show (0 : Nat) < 2 by omega)
                  · trivial
                · show segsVals ρc [.p 0 0, .arr .u8 (keyL 240 (g2 ks))] = segsVals ρ (.p bid 0 :: rest)
                  rw [segsVals_cons, segsVals_one, segsVals_cons, intsOf_spec ρ _ _ hks, keyL_g2 hk]
                  simp only [Seg.vals, Seg.conc, h0]
              · rw [if_neg hi1] at hb'
                cases hb'
          obtain ⟨c, hc⟩ : ∃ c, Try.f13.body = some c := Option.isSome_iff_exists.1 (by kernel_rfl)
          have hcall := reach_val tyT_ok Try.func13 hc (avs := bArgs (g2 bs)) (.inr rfl) (b_reach (g2 ks) (g2 bs) hc) (v := .av (.one (.arr .u8 (encL ks bs)))) (by kernel_rfl) (by kernel_rfl) (by kernel_rfl) (fun s hs => by
            simp only [bArgs, List.mem_cons, List.not_mem_nil, or_false] at hs
            rcases hs with rfl | rfl
            · exact fun s hs => (by simp [AV.segs] at hs; subst hs; exact (show (1 : Nat) < 2 by omega))
            · exact fun s hs => (by simp [AV.segs] at hs; subst hs; trivial)) hH ρ
          have e : (bArgs (g2 bs)).map (SV.conc ρc) = [SV.conc ρ (.av (.one (.p id 0))), SV.conc ρ (.av b)] := by
            have e1 : SV.conc ρ (.av b) = .agg (bs.map (Value.int .u8)).toArray := by rw [conc_av, aggB_conc ρ hagg, intsOf_spec ρ _ _ hbs]
            rw [e1]
            simp only [bArgs, List.map_cons, List.map_nil, SV.conc, AV.conc, Seg.conc, h1, keyL_g2 hs]
          rw [e] at hcall
          exact ent_val hcall hG rfl rfl rfl
        · cases hr
      · cases hr
    · cases hr
  · cases hr
end Go.Proofs.Ytkoackalpcmhaaa.Am
