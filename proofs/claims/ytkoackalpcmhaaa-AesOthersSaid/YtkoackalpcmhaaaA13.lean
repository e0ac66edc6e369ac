/- The cipher: unlike blocks are unlike as it has them. Conditions: none. -/
import Derived.Test.YtkoackalpcmhaaaA12
import Derived.Test.YtkoackalpcmhaaaPla
namespace Go.Proofs.Ytkoackalpcmhaaa.Am
set_option linter.unusedVariables false
set_option linter.unusedSimpArgs false
open Go Go.RowKit
open Pla (xt mx)

def bv (z : Int) : BitVec 8 := BitVec.ofInt 8 z
theorem wrap_bv (v : BitVec 8) : IntKind.u8.wrap (v.toNat : Int) = (v.toNat : Int) := u8_small (by omega) (by have := v.isLt; omega)
theorem bx_bv (a b : Int) : bx a b = ((bv a ^^^ bv b).toNat : Int) := wrap_bv (BitVec.ofInt 8 a ^^^ BitVec.ofInt 8 b)
theorem bv_bx (a b : Int) : bv (bx a b) = bv a ^^^ bv b := by rw [bx_bv]; exact Pla.bv_wrap _
theorem bv_inj {a b : Int} (ha : inR a) (hb : inR b) (h : bv a = bv b) : a = b := Pla.bv_inj ⟨ha.1, by have := ha.1; have := ha.2; omega⟩ ⟨hb.1, by have := hb.1; have := hb.2; omega⟩ h
theorem msb_and : ∀ v : BitVec 8, ((v &&& 128#8).toNat == 0) = !v.msb := by decide +kernel
theorem ba_bv (z : Int) : (ba z 128 != 0) = (bv z).msb := by
  have e : ba z 128 = ((bv z &&& 128#8).toNat : Int) := wrap_bv (BitVec.ofInt 8 z &&& BitVec.ofInt 8 128)
  rw [e]
  have := msb_and (bv z)
  cases hm : (bv z).msb with
  | true =>
    rw [hm] at this
    simp only [Bool.not_true, beq_eq_false_iff_ne] at this
    rw [bne_iff_ne]
    omega
  | false =>
    rw [hm] at this
    simp only [Bool.not_false, beq_iff_eq] at this
    rw [this]
    rfl
theorem bv_bs (z : Int) : bv (bs z 1) = bv z <<< 1 := by
  have e : bs z 1 = (z * 2) % 256 := u8_eq (z * 2 ^ 1)
  rw [e]
  apply BitVec.eq_of_toNat_eq
  unfold bv
  rw [BitVec.toNat_shiftLeft, BitVec.toNat_ofInt, BitVec.toNat_ofInt, Nat.shiftLeft_eq]
  omega
theorem bv_tw (z : Int) : bv (tw z) = xt (bv z) := by
  unfold tw xt
  rw [ba_bv]
  cases (bv z).msb with
  | true => rw [if_pos rfl, if_pos rfl, bv_bx, bv_bs]; rfl
  | false => rw [if_neg (by decide), if_neg (by decide), bv_bs, BitVec.xor_zero]
theorem bv_zero : bv 0 = 0#8 := by decide
theorem gAdd_eq (kf g : Nat → Int) (r i : Nat) : gAdd kf r g i = bx (bx 0 (g i)) (kf (16 * r + i)) := by
  obtain ⟨c, k, hk, rfl⟩ : ∃ c k : Nat, k < 4 ∧ i = 4 * c + k := ⟨i / 4, i % 4, by omega, by omega⟩
  have e1 : (4 * c + k) / 4 = c := by omega
  have e2 : (4 * c + k) % 4 = k := by omega
  unfold gAdd wk
  rw [e1, e2]
  match k, hk with
  | 0, _ => rfl
  | 1, _ => rfl
  | 2, _ => rfl
  | 3, _ => rfl
theorem gAdd_bv (kf g : Nat → Int) (r i : Nat) : bv (gAdd kf r g i) = bv (g i) ^^^ bv (kf (16 * r + i)) := by
  rw [gAdd_eq, bv_bx, bv_bx, bv_zero, BitVec.zero_xor]
def EqOn (g h : Nat → Int) : Prop := ∀ i, i < 16 → g i = h i
def RIn (g : Nat → Int) : Prop := ∀ i, i < 16 → inR (g i)
theorem gAdd_inj {kf g h : Nat → Int} {r : Nat} (hg : RIn g) (hh : RIn h) (e : EqOn (gAdd kf r g) (gAdd kf r h)) : EqOn g h := fun i hi => by
  refine bv_inj (hg i hi) (hh i hi) ?_
  have := congrArg bv (e i hi)
  rw [gAdd_bv, gAdd_bv] at this
  have h2 := congrArg (fun v => v ^^^ bv (kf (16 * r + i))) this
  simpa only [BitVec.xor_assoc, BitVec.xor_self, BitVec.xor_zero] using h2
theorem sb_inj {a b : Int} (ha : inR a) (hb : inR b) (h : sb a = sb b) : a = b := by
  have key : (List.range 256).all (fun i => sbox.idxOf (sbox.getD i 0) == i) = true := by decide +kernel
  rw [List.all_eq_true] at key
  have h1 := key a.toNat (List.mem_range.2 (by have := ha.2; omega))
  have h2 := key b.toNat (List.mem_range.2 (by have := hb.2; omega))
  rw [beq_iff_eq] at h1 h2
  have h : sbox.getD a.toNat 0 = sbox.getD b.toNat 0 := h
  rw [h, h2] at h1
  have := ha.1
  have := hb.1
  omega
theorem sb_range (x : Int) : inR (sb x) := by
  have key : sbox.all (fun z => decide (0 ≤ z) && Nat.ble z.toNat 255) = true := by decide +kernel
  rw [List.all_eq_true] at key
  refine g2_range (fun z hz => ?_) _
  have := key z hz
  rw [Bool.and_eq_true] at this
  exact ⟨of_decide_eq_true this.1, Nat.le_of_ble_eq_true this.2⟩
theorem gRow_inj {g h : Nat → Int} (hg : RIn g) (hh : RIn h) (e : EqOn (gRow g) (gRow h)) : EqOn g h := fun j hj => by
  have h1 := e (4 * ((j / 4 + 4 - j % 4) % 4) + j % 4) (by omega)
  unfold gRow at h1
  rw [show 4 * (((4 * ((j / 4 + 4 - j % 4) % 4) + j % 4) / 4 + (4 * ((j / 4 + 4 - j % 4) % 4) + j % 4) % 4) % 4) + (4 * ((j / 4 + 4 - j % 4) % 4) + j % 4) % 4 = j by omega] at h1
  exact sb_inj (hg j hj) (hh j hj) h1
theorem mixW_bv (a b c d : Int) : bv (g2 (mixW a b c d) 0) = mx (bv a) (bv b) (bv c) (bv d) ∧ bv (g2 (mixW a b c d) 1) = mx (bv b) (bv c) (bv d) (bv a) ∧ bv (g2 (mixW a b c d) 2) = mx (bv c) (bv d) (bv a) (bv b) ∧ bv (g2 (mixW a b c d) 3) = mx (bv d) (bv a) (bv b) (bv c) := by
  refine ⟨?_, ?_, ?_, ?_⟩
  · show bv (bx (bx (bx (bx (bx 0 (tw a)) (tw b)) b) c) d) = _
    simp only [bv_bx, bv_tw, bv_zero, BitVec.zero_xor, mx]
  · show bv (bx (bx (bx (bx (bx 0 (tw b)) (tw c)) c) d) a) = _
    simp only [bv_bx, bv_tw, bv_zero, BitVec.zero_xor, mx]
  · show bv (bx (bx (bx (bx (bx 0 (tw c)) (tw d)) d) a) b) = _
    simp only [bv_bx, bv_tw, bv_zero, BitVec.zero_xor, mx]
  · show bv (bx (bx (bx (bx (bx 0 (tw d)) (tw a)) a) b) c) = _
    simp only [bv_bx, bv_tw, bv_zero, BitVec.zero_xor, mx]
theorem gMix_at (g : Nat → Int) (c k : Nat) (hk : k < 4) : gMix g (4 * c + k) = g2 (mixW (g (4 * c)) (g (4 * c + 1)) (g (4 * c + 2)) (g (4 * c + 3))) k := by
  unfold gMix
  rw [show (4 * c + k) / 4 = c by omega, show (4 * c + k) % 4 = k by omega]
theorem gMix_inj {g h : Nat → Int} (hg : RIn g) (hh : RIn h) (e : EqOn (gMix g) (gMix h)) : EqOn g h := fun i hi => by
  obtain ⟨c, k, hk, hc, rfl⟩ : ∃ c k : Nat, k < 4 ∧ c < 4 ∧ i = 4 * c + k := ⟨i / 4, i % 4, by omega, by omega, by omega⟩
  obtain ⟨a0, a1, a2, a3⟩ := mixW_bv (g (4 * c)) (g (4 * c + 1)) (g (4 * c + 2)) (g (4 * c + 3))
  obtain ⟨b0, b1, b2, b3⟩ := mixW_bv (h (4 * c)) (h (4 * c + 1)) (h (4 * c + 2)) (h (4 * c + 3))
  have e' : ∀ j, j < 4 → bv (g2 (mixW (g (4 * c)) (g (4 * c + 1)) (g (4 * c + 2)) (g (4 * c + 3))) j) = bv (g2 (mixW (h (4 * c)) (h (4 * c + 1)) (h (4 * c + 2)) (h (4 * c + 3))) j) := fun j hj => by
    rw [← gMix_at g c j hj, ← gMix_at h c j hj, e (4 * c + j) (by omega)]
  obtain ⟨k0, k1, k2, k3⟩ := Pla.mx_inj (a0.symm.trans ((e' 0 (by omega)).trans b0)) (a1.symm.trans ((e' 1 (by omega)).trans b1)) (a2.symm.trans ((e' 2 (by omega)).trans b2)) (a3.symm.trans ((e' 3 (by omega)).trans b3))
  refine bv_inj (hg _ hi) (hh _ hi) ?_
  match k, hk with
  | 0, _ => exact k0
  | 1, _ => exact k1
  | 2, _ => exact k2
  | 3, _ => exact k3
theorem gRow_in (g : Nat → Int) : RIn (gRow g) := fun i _ => sb_range _
theorem rnds_in {kf : Nat → Int} : ∀ (n r : Nat) {g : Nat → Int}, RIn g → RIn (rnds kf r n g)
  | 0, _, _, h => h
  | n + 1, r, _, _ => rnds_in n (r + 1) fun i _ => gAdd_range _ _ _ i
theorem gMix_in (g : Nat → Int) : RIn (gMix g) := fun i _ => by
  refine g2_range (fun x hx => ?_) _
  simp only [mixW, wx, List.mem_cons, List.not_mem_nil, or_false] at hx
  rcases hx with rfl | rfl | rfl | rfl <;> exact bx_range _ _
theorem rnds_inj {kf : Nat → Int} : ∀ (n r : Nat) {g h : Nat → Int}, RIn g → RIn h → EqOn (rnds kf r n g) (rnds kf r n h) → EqOn g h
  | 0, _, _, _, _, _, e => e
  | n + 1, r, g, h, hg, hh, e => gRow_inj hg hh (gMix_inj (gRow_in g) (gRow_in h) (gAdd_inj (gMix_in _) (gMix_in _) (rnds_inj n (r + 1) (fun i _ => gAdd_range _ _ _ i) (fun i _ => gAdd_range _ _ _ i) e)))
theorem enc_inj {ks a b : List Int} (ha : a.length = 16) (hb : b.length = 16) (ra : ∀ j, inR (g2 a j)) (rb : ∀ j, inR (g2 b j)) (e : encL ks a = encL ks b) : a = b := by
  have e1 : EqOn (encG (g2 ks) (g2 a)) (encG (g2 ks) (g2 b)) := fun i hi => by
    have := congrArg (fun l => g2 l i) e
    unfold encL at this
    simp only [g2_keyL 16 _ i hi] at this
    exact this
  have hr : ∀ l, RIn (gAdd (g2 ks) 0 (g2 l)) := fun l i _ => gAdd_range _ _ _ i
  have e2 := gAdd_inj (fun i _ => ra i) (fun i _ => rb i) (rnds_inj 13 1 (hr a) (hr b) (gRow_inj (rnds_in 13 1 (hr a)) (rnds_in 13 1 (hr b)) (gAdd_inj (gRow_in _) (gRow_in _) e1)))
  rw [← keyL_g2 ha, ← keyL_g2 hb]
  exact keyL_congr e2
theorem enc_beq {ks a b : List Int} (ha : a.length = 16) (hb : b.length = 16) (ra : ∀ j, inR (g2 a j)) (rb : ∀ j, inR (g2 b j)) : ((encL ks a == encL ks b) == (a == b)) = true := by
  by_cases h : a = b
  · subst h; simp
  · have h2 : encL ks a ≠ encL ks b := fun e => h (enc_inj ha hb ra rb e)
    rw [beq_eq_false_iff_ne.2 h2, beq_eq_false_iff_ne.2 h]
    rfl
theorem lawOthers_run (kf af bf : Nat → Int) : wholeV tyT mO (atH 4 17 (isB true) noH) [] 1000 Try.f5 [.av (.one (.arr .u8 (keyL 32 kf))), .av (.one (.arr .u8 (keyL 16 af))), .av (.one (.arr .u8 (keyL 16 bf)))] = some (ofV (.bool true), [32 ≤ 32 ∧ ∀ j, j < 32 → inR (g2 (keyL 32 kf) (0 + j)), sbox = sbox, sbox = sbox, isA ((encL (keyL 240 (schedW (keyL 32 kf) 0)) (keyL 16 af) == encL (keyL 240 (schedW (keyL 32 kf) 0)) (keyL 16 bf)) == (keyL 16 af == keyL 16 bf)) true]) := by
  kernel_rfl
theorem lawOthers_fact (ks a b : List Int) (lk : ks.length = 32) (la : a.length = 16) (lb : b.length = 16) (wk : ∀ z ∈ ks, (Lit.int .u8 z).wf = true) (wa : ∀ z ∈ a, (Lit.int .u8 z).wf = true) (wb : ∀ z ∈ b, (Lit.int .u8 z).wf = true) (w : World) : Calls Try.prog 5 #[.agg (ks.map (Value.int .u8)).toArray, .agg (a.map (Value.int .u8)).toArray, .agg (b.map (Value.int .u8)).toArray] w fun e w' => e = .returned (.bool true) ∧ Below w.heap.size w w' := by
  have := am_val tyT_ok mO_ok mixed_ Try.func5 (avs := [.av (.one (.arr .u8 (keyL 32 (g2 ks)))), .av (.one (.arr .u8 (keyL 16 (g2 a)))), .av (.one (.arr .u8 (keyL 16 (g2 b))))]) (by kernel_rfl) (lawOthers_run (g2 ks) (g2 a) (g2 b)) ⟨⟨Nat.le_refl _, fun j _ => by rw [keyL_g2 lk]; exact wf_g2 wk _⟩, rfl, rfl, fun ρ => by
    rw [keyL_g2 la, keyL_g2 lb, enc_beq la lb (wf_g2 wa) (wf_g2 wb)], trivial⟩ (by kernel_rfl) (by kernel_rfl) (fun _ => ⟨none, 0⟩) w
  rw [keyL_g2 lk, keyL_g2 la, keyL_g2 lb] at this
  exact this
end Go.Proofs.Ytkoackalpcmhaaa.Am
