/- The cipher: what is awake. Conditions: none. -/
import Derived.Test.YtkoackalpcmhaaaA8
import Derived.Test.YtkoackalpcmhaaaA9
namespace Go.Proofs.Ytkoackalpcmhaaa.Am
set_option linter.unusedVariables false
set_option linter.unusedSimpArgs false
open Go Go.RowKit

/-! rounds on lists -/
def stepL (kf : Nat → Int) (r : Nat) (l : List Int) : List Int := keyL 16 (gAdd kf r (gMix (gRow (g2 l))))
def rndsL (kf : Nat → Int) : Nat → Nat → List Int → List Int
  | _, 0, l => l
  | r, n + 1, l => rndsL kf (r + 1) n (stepL kf r l)
def encF (kf bf : Nat → Int) : List Int := keyL 16 (gAdd kf 14 (gRow (g2 (rndsL kf 1 13 (keyL 16 (gAdd kf 0 bf))))))
theorem gAdd_congr {kf g h : Nat → Int} (e : ∀ i, i < 16 → g i = h i) (r i : Nat) (hi : i < 16) : gAdd kf r g i = gAdd kf r h i := by
  unfold gAdd wk
  rw [e (4 * (i / 4)) (by omega), e (4 * (i / 4) + 1) (by omega), e (4 * (i / 4) + 2) (by omega), e (4 * (i / 4) + 3) (by omega)]
theorem gRow_congr {g h : Nat → Int} (e : ∀ i, i < 16 → g i = h i) (i : Nat) (hi : i < 16) : gRow g i = gRow h i := by
  unfold gRow
  rw [e _ (by omega)]
theorem gMix_congr {g h : Nat → Int} (e : ∀ i, i < 16 → g i = h i) (i : Nat) (hi : i < 16) : gMix g i = gMix h i := by
  unfold gMix
  rw [e (4 * (i / 4)) (by omega), e (4 * (i / 4) + 1) (by omega), e (4 * (i / 4) + 2) (by omega), e (4 * (i / 4) + 3) (by omega)]
theorem rnds_L {kf : Nat → Int} : ∀ (n r : Nat) (g : Nat → Int) (l : List Int), (∀ i, i < 16 → g i = g2 l i) → ∀ i, i < 16 → rnds kf r n g i = g2 (rndsL kf r n l) i
  | 0, _, _, _, h => h
  | n + 1, r, g, l, h => by
    refine rnds_L n (r + 1) _ _ fun i hi => ?_
    rw [stepL, g2_keyL 16 _ i hi]
    exact gAdd_congr (fun i hi => gMix_congr (fun i hi => gRow_congr h i hi) i hi) r i hi
theorem enc_F (kf bf : Nat → Int) : keyL 16 (encG kf bf) = encF kf bf :=
  keyL_congr fun i hi => gAdd_congr (fun i hi => gRow_congr (rnds_L 13 1 _ _ fun i hi => (g2_keyL 16 _ i hi).symm) i hi) 14 i hi

def w0K : Nat → Int := schedW (List.replicate 32 0) 0
theorem w0_list : ∃ ks : List Int, keyL 240 w0K = ks ∧ (encF (g2 ks) (g2 (List.replicate 16 255)) == List.replicate 16 255) = false := ⟨_, rfl, by decide +kernel⟩

noncomputable def lO : List (Nat × Ent) := [(11, eNew), (16, e16 nextL), (13, eBlock)]
theorem lO_ok : OOK Try.prog lO := ook_of (l := [(11, eNew), (16, e16 nextL), (13, eBlock)]) ⟨new_ent, next_ent, block_ent, trivial⟩
def ffs : List Int := List.replicate 16 255
def awPs : List Prop := [32 ≤ 32 ∧ ∀ j, j < 32 → inR (g2 (List.replicate 32 0) (0 + j)), sbox = sbox, isA (!(encL (keyL 240 w0K) ffs == ffs)) true]
theorem awake_run : wholeV tyT lO (atH 8 17 (isB true) noH) [(3, 17)] 1000 Try.f10 [] = some (ofV (.bool true), awPs) := by
  kernel_rfl
theorem awPs_ok : AllP awPs := by
  refine ⟨⟨Nat.le_refl _, fun j hj => ?_⟩, rfl, fun ρ => ?_, trivial⟩
  · refine g2_range (fun x hx => ?_) _
    rw [List.mem_replicate] at hx
    rw [hx.2]
    exact ⟨Int.le_refl _, Nat.zero_le _⟩
  · obtain ⟨ks, h1, h2⟩ := w0_list
    have : encL (keyL 240 w0K) ffs = encF (g2 ks) (g2 (List.replicate 16 255)) := by
      rw [← h1]
      exact enc_F _ _
    rw [this]
    show (ofV (.bool (!(_ == List.replicate 16 255)))).conc ρ = _
    rw [h2]
    rfl
def eTrue : Ent := fun args _ _ => match args with
  | [] => some { val := ofV (.bool true) }
  | _ => none
theorem awake_ent : EntOK Try.prog 10 eTrue := by
  refine ⟨⟨_, Try.func10, by kernel_rfl, by kernel_rfl⟩, fun args G base res hr ha ρ D N M w hG hin hfr => ?_⟩
  unfold eTrue at hr
  split at hr
  · simp only [Option.some.injEq] at hr
    subst hr
    exact ent_val (am_val tyT_ok lO_ok mixed_ Try.func10 (avs := []) (by kernel_rfl) awake_run awPs_ok (by kernel_rfl) (by kernel_rfl) ρ w) hG rfl rfl rfl
  · cases hr
end Go.Proofs.Ytkoackalpcmhaaa.Am
