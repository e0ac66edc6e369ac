/- Bytes as vectors of bits: a column, mixed, is told by what it is mixed to. Conditions: none. -/
import Derived.KernelRfl
namespace Go.Proofs.Ytkoackalpcmhaaa.Pla
set_option linter.unusedVariables false
set_option linter.unusedSimpArgs false
def xt (v : BitVec 8) : BitVec 8 := (v <<< 1) ^^^ (if v.msb then 27#8 else 0#8)
theorem xt_lin (u v : BitVec 8) : xt (u ^^^ v) = xt u ^^^ xt v := by
  unfold xt
  rw [BitVec.shiftLeft_xor_distrib, BitVec.msb_xor]
  have key : ∀ p q : Bool, (if (p ^^ q) = true then 27#8 else 0#8) = (if p = true then 27#8 else 0#8) ^^^ (if q = true then 27#8 else 0#8) := by decide
  rw [key]
  ac_rfl
theorem xt_zero : xt 0#8 = 0#8 := by decide
/-- A column, mixed: its first byte. -/
def mx (a b c d : BitVec 8) : BitVec 8 := xt a ^^^ xt b ^^^ b ^^^ c ^^^ d
theorem mx_lin (a b c d a' b' c' d' : BitVec 8) : mx (a ^^^ a') (b ^^^ b') (c ^^^ c') (d ^^^ d') = mx a b c d ^^^ mx a' b' c' d' := by
  unfold mx
  rw [xt_lin, xt_lin]
  ac_rfl
theorem xor_zero_eq {u v : BitVec 8} (h : u ^^^ v = 0#8) : u = v := by
  have : u ^^^ v ^^^ v = v := by rw [h, BitVec.zero_xor]
  rwa [BitVec.xor_assoc, BitVec.xor_self, BitVec.xor_zero] at this
theorem mx_ker {a b c d : BitVec 8} (h0 : mx a b c d = 0#8) (h1 : mx b c d a = 0#8) (h2 : mx c d a b = 0#8) (h3 : mx d a b c = 0#8) : a = 0#8 ∧ b = 0#8 ∧ c = 0#8 ∧ d = 0#8 := by
  have hs : a ^^^ b ^^^ c ^^^ d = 0#8 := by
    have e : mx a b c d ^^^ mx b c d a ^^^ mx c d a b ^^^ mx d a b c = (xt a ^^^ xt a) ^^^ (xt b ^^^ xt b) ^^^ (xt c ^^^ xt c) ^^^ (xt d ^^^ xt d) ^^^ ((a ^^^ a) ^^^ (b ^^^ b) ^^^ (c ^^^ c) ^^^ (d ^^^ d)) ^^^ (a ^^^ b ^^^ c ^^^ d) := by
      unfold mx
      ac_rfl
    rw [h0, h1, h2, h3] at e
    simp only [BitVec.xor_self, BitVec.zero_xor] at e
    exact e.symm
  have k0 : a = xt (a ^^^ b) := by
    have e : mx a b c d = (xt (a ^^^ b) ^^^ a) ^^^ (a ^^^ b ^^^ c ^^^ d) := by
      unfold mx
      rw [xt_lin]
      have : a ^^^ a = 0#8 := BitVec.xor_self
      calc xt a ^^^ xt b ^^^ b ^^^ c ^^^ d = xt a ^^^ xt b ^^^ b ^^^ c ^^^ d ^^^ 0#8 := by rw [BitVec.xor_zero]
        _ = xt a ^^^ xt b ^^^ b ^^^ c ^^^ d ^^^ (a ^^^ a) := by rw [this]
        _ = _ := by ac_rfl
    rw [h0, hs, BitVec.xor_zero] at e
    exact (xor_zero_eq e.symm).symm
  have k1 : b = xt (b ^^^ c) := by
    have e : mx b c d a = (xt (b ^^^ c) ^^^ b) ^^^ (a ^^^ b ^^^ c ^^^ d) := by
      unfold mx
      rw [xt_lin]
      have : b ^^^ b = 0#8 := BitVec.xor_self
      calc xt b ^^^ xt c ^^^ c ^^^ d ^^^ a = xt b ^^^ xt c ^^^ c ^^^ d ^^^ a ^^^ 0#8 := by rw [BitVec.xor_zero]
        _ = xt b ^^^ xt c ^^^ c ^^^ d ^^^ a ^^^ (b ^^^ b) := by rw [this]
        _ = _ := by ac_rfl
    rw [h1, hs, BitVec.xor_zero] at e
    exact (xor_zero_eq e.symm).symm
  have k2 : c = xt (c ^^^ d) := by
    have e : mx c d a b = (xt (c ^^^ d) ^^^ c) ^^^ (a ^^^ b ^^^ c ^^^ d) := by
      unfold mx
      rw [xt_lin]
      have : c ^^^ c = 0#8 := BitVec.xor_self
      calc xt c ^^^ xt d ^^^ d ^^^ a ^^^ b = xt c ^^^ xt d ^^^ d ^^^ a ^^^ b ^^^ 0#8 := by rw [BitVec.xor_zero]
        _ = xt c ^^^ xt d ^^^ d ^^^ a ^^^ b ^^^ (c ^^^ c) := by rw [this]
        _ = _ := by ac_rfl
    rw [h2, hs, BitVec.xor_zero] at e
    exact (xor_zero_eq e.symm).symm
  have k3 : d = xt (d ^^^ a) := by
    have e : mx d a b c = (xt (d ^^^ a) ^^^ d) ^^^ (a ^^^ b ^^^ c ^^^ d) := by
      unfold mx
      rw [xt_lin]
      have : d ^^^ d = 0#8 := BitVec.xor_self
      calc xt d ^^^ xt a ^^^ a ^^^ b ^^^ c = xt d ^^^ xt a ^^^ a ^^^ b ^^^ c ^^^ 0#8 := by rw [BitVec.xor_zero]
        _ = xt d ^^^ xt a ^^^ a ^^^ b ^^^ c ^^^ (d ^^^ d) := by rw [this]
        _ = _ := by ac_rfl
    rw [h3, hs, BitVec.xor_zero] at e
    exact (xor_zero_eq e.symm).symm
  have hac : a = c := by
    refine xor_zero_eq ?_
    have e : a ^^^ c = xt (a ^^^ b ^^^ c ^^^ d) := by
      rw [show a ^^^ b ^^^ c ^^^ d = (a ^^^ b) ^^^ (c ^^^ d) by ac_rfl, xt_lin, ← k0, ← k2]
    rw [e, hs, xt_zero]
  have hbd : b = d := by
    refine xor_zero_eq ?_
    have e : b ^^^ d = xt (a ^^^ b ^^^ c ^^^ d) := by
      rw [show a ^^^ b ^^^ c ^^^ d = (b ^^^ c) ^^^ (d ^^^ a) by ac_rfl, xt_lin, ← k1, ← k3]
    rw [e, hs, xt_zero]
  subst hac hbd
  have hab : a = b := by
    refine xor_zero_eq ?_
    have e : a ^^^ b = xt ((a ^^^ b) ^^^ (b ^^^ a)) := by rw [xt_lin, ← k0, ← k1]
    rw [e, show (a ^^^ b) ^^^ (b ^^^ a) = (a ^^^ a) ^^^ (b ^^^ b) by ac_rfl, BitVec.xor_self, BitVec.xor_self, BitVec.xor_self, xt_zero]
  subst hab
  rw [BitVec.xor_self, xt_zero] at k0
  exact ⟨k0, k0, k0, k0⟩
theorem mx_inj {a b c d a' b' c' d' : BitVec 8} (h0 : mx a b c d = mx a' b' c' d') (h1 : mx b c d a = mx b' c' d' a') (h2 : mx c d a b = mx c' d' a' b') (h3 : mx d a b c = mx d' a' b' c') : a = a' ∧ b = b' ∧ c = c' ∧ d = d' := by
  obtain ⟨k0, k1, k2, k3⟩ := mx_ker (a := a ^^^ a') (b := b ^^^ b') (c := c ^^^ c') (d := d ^^^ d') (by rw [mx_lin, h0, BitVec.xor_self]) (by rw [mx_lin, h1, BitVec.xor_self]) (by rw [mx_lin, h2, BitVec.xor_self]) (by rw [mx_lin, h3, BitVec.xor_self])
  exact ⟨xor_zero_eq k0, xor_zero_eq k1, xor_zero_eq k2, xor_zero_eq k3⟩
/-! bytes as integers -/
theorem byte_bv {z : Int} (h : 0 ≤ z) (h' : z < 256) : ((BitVec.ofInt 8 z).toNat : Int) = z := by
  rw [BitVec.toNat_ofInt]
  omega
theorem bv_inj {a b : Int} (ha : 0 ≤ a ∧ a < 256) (hb : 0 ≤ b ∧ b < 256) (h : BitVec.ofInt 8 a = BitVec.ofInt 8 b) : a = b := by
  rw [← byte_bv ha.1 ha.2, ← byte_bv hb.1 hb.2, h]
theorem bv_wrap (v : BitVec 8) : BitVec.ofInt 8 (v.toNat : Int) = v := by
  apply BitVec.eq_of_toNat_eq
  rw [BitVec.toNat_ofInt]
  have := v.isLt
  omega
end Go.Proofs.Ytkoackalpcmhaaa.Pla
