/- Plain law: a number out of four words: sums, differences, products, word by word. Conditions: words are below 2^64. -/
namespace Go.Proofs.Ytldnjbpcdojffaa
set_option linter.unusedVariables false
set_option linter.unusedSimpArgs false
namespace Pl
def V (a0 a1 a2 a3 : Nat) : Nat := a0 + 18446744073709551616 * a1 + 340282366920938463463374607431768211456 * a2 + 6277101735386680763835789423207666416102355444464034512896 * a3
def W4 (a0 a1 a2 a3 : Nat) : Prop := a0 < 18446744073709551616 ∧ a1 < 18446744073709551616 ∧ a2 < 18446744073709551616 ∧ a3 < 18446744073709551616
/-- 2^256 -/
def T256 : Nat := 115792089237316195423570985008687907853269984665640564039457584007913129639936
def T64 : Nat := 18446744073709551616

theorem V_lt {a0 a1 a2 a3 : Nat} (h : W4 a0 a1 a2 a3) : V a0 a1 a2 a3 < T256 := by unfold W4 at h; unfold V T256; omega
theorem V_inj {a0 a1 a2 a3 b0 b1 b2 b3 : Nat} (ha : W4 a0 a1 a2 a3) (hb : W4 b0 b1 b2 b3) (h : V a0 a1 a2 a3 = V b0 b1 b2 b3) : a0 = b0 ∧ a1 = b1 ∧ a2 = b2 ∧ a3 = b3 := by
  unfold W4 at ha hb; unfold V at h
  refine ⟨?_, ?_, ?_, ?_⟩ <;> omega
theorem V_zero {a0 a1 a2 a3 : Nat} : V a0 a1 a2 a3 = 0 ↔ a0 = 0 ∧ a1 = 0 ∧ a2 = 0 ∧ a3 = 0 := by unfold V; omega
/-- The words of a number. -/
theorem words (n : Nat) (h : n < T256) : ∃ a0 a1 a2 a3, W4 a0 a1 a2 a3 ∧ V a0 a1 a2 a3 = n := by
  unfold T256 at h
  refine ⟨n % 18446744073709551616, n / 18446744073709551616 % 18446744073709551616, n / 340282366920938463463374607431768211456 % 18446744073709551616, n / 6277101735386680763835789423207666416102355444464034512896, ?_, ?_⟩
  · unfold W4; omega
  · unfold V; omega

def sbl (x y b : Nat) : Nat := (x + 18446744073709551616 - y - b) % 18446744073709551616
def sbb (x y b : Nat) : Nat := if x < y + b then 1 else 0
theorem sbb_le (x y b : Nat) : sbb x y b ≤ 1 := by unfold sbb; split <;> omega
theorem sb_spec {x y b r c : Nat} (hx : x < 18446744073709551616) (hy : y < 18446744073709551616) (hb : b ≤ 1) (h : sbl x y b = r ∧ sbb x y b = c) : r < 18446744073709551616 ∧ c ≤ 1 ∧ r + y + b = x + 18446744073709551616 * c := by
  obtain ⟨rfl, rfl⟩ := h
  unfold sbl sbb
  split <;> omega
theorem minus_spec {a0 a1 a2 a3 b0 b1 b2 b3 r0 r1 r2 r3 c0 c1 c2 c3 : Nat} (ha : W4 a0 a1 a2 a3) (hb : W4 b0 b1 b2 b3) (h0 : sbl a0 b0 0 = r0 ∧ sbb a0 b0 0 = c0) (h1 : sbl a1 b1 c0 = r1 ∧ sbb a1 b1 c0 = c1) (h2 : sbl a2 b2 c1 = r2 ∧ sbb a2 b2 c1 = c2) (h3 : sbl a3 b3 c2 = r3 ∧ sbb a3 b3 c2 = c3) :
    W4 r0 r1 r2 r3 ∧ c3 ≤ 1 ∧ V r0 r1 r2 r3 + V b0 b1 b2 b3 = V a0 a1 a2 a3 + T256 * c3 := by
  unfold W4 at *
  have e0 := sb_spec ha.1 hb.1 (by omega) h0
  have e1 := sb_spec ha.2.1 hb.2.1 e0.2.1 h1
  have e2 := sb_spec ha.2.2.1 hb.2.2.1 e1.2.1 h2
  have e3 := sb_spec ha.2.2.2 hb.2.2.2 e2.2.1 h3
  unfold V T256
  omega

def adl (x y c : Nat) : Nat := (x + y + c) % 18446744073709551616
def adc (x y c : Nat) : Nat := (x + y + c) / 18446744073709551616
theorem ad_spec {x y b r c : Nat} (hx : x < 18446744073709551616) (hy : y < 18446744073709551616) (hb : b ≤ 1) (h : adl x y b = r ∧ adc x y b = c) : r < 18446744073709551616 ∧ c ≤ 1 ∧ r + 18446744073709551616 * c = x + y + b := by
  obtain ⟨rfl, rfl⟩ := h
  unfold adl adc
  omega
theorem plus_spec {a0 a1 a2 a3 b0 b1 b2 b3 r0 r1 r2 r3 c0 c1 c2 c3 : Nat} (ha : W4 a0 a1 a2 a3) (hb : W4 b0 b1 b2 b3) (h0 : adl a0 b0 0 = r0 ∧ adc a0 b0 0 = c0) (h1 : adl a1 b1 c0 = r1 ∧ adc a1 b1 c0 = c1) (h2 : adl a2 b2 c1 = r2 ∧ adc a2 b2 c1 = c2) (h3 : adl a3 b3 c2 = r3 ∧ adc a3 b3 c2 = c3) :
    W4 r0 r1 r2 r3 ∧ c3 ≤ 1 ∧ V r0 r1 r2 r3 + T256 * c3 = V a0 a1 a2 a3 + V b0 b1 b2 b3 := by
  unfold W4 at *
  have e0 := ad_spec ha.1 hb.1 (by omega) h0
  have e1 := ad_spec ha.2.1 hb.2.1 e0.2.1 h1
  have e2 := ad_spec ha.2.2.1 hb.2.2.1 e1.2.1 h2
  have e3 := ad_spec ha.2.2.2 hb.2.2.2 e2.2.1 h3
  unfold V T256
  omega
theorem adc_le {x y b : Nat} (hx : x < 18446744073709551616) (hy : y < 18446744073709551616) (hb : b ≤ 1) : adc x y b ≤ 1 := by unfold adc; omega


theorem mulw_le {x y : Nat} (hx : x < 18446744073709551616) (hy : y < 18446744073709551616) : x * y ≤ 340282366920938463426481119284349108225 := Nat.mul_le_mul (Nat.le_sub_one_of_lt hx) (Nat.le_sub_one_of_lt hy)
/-- One word of a product with a word. -/
theorem times_word {a w k h l s c : Nat} (ha : a < 18446744073709551616) (hw : w < 18446744073709551616) (hk : k < 18446744073709551616) (h1 : l + 18446744073709551616 * h = a * w) (hl : l < 18446744073709551616) (h2 : adl l k 0 = s ∧ adc l k 0 = c) :
    s < 18446744073709551616 ∧ c ≤ 1 ∧ h + c < 18446744073709551616 ∧ s + 18446744073709551616 * (h + c) = a * w + k := by
  have e := ad_spec hl hk (by omega) h2
  have := mulw_le ha hw
  omega
theorem times_spec {a0 a1 a2 a3 w s0 s1 s2 s3 k1 k2 k3 k4 : Nat} (e0 : s0 + 18446744073709551616 * k1 = a0 * w + 0) (e1 : s1 + 18446744073709551616 * k2 = a1 * w + k1) (e2 : s2 + 18446744073709551616 * k3 = a2 * w + k2) (e3 : s3 + 18446744073709551616 * k4 = a3 * w + k3) :
    V s0 s1 s2 s3 + T256 * k4 = V a0 a1 a2 a3 * w := by
  unfold V T256
  have : (a0 + 18446744073709551616 * a1 + 340282366920938463463374607431768211456 * a2 + 6277101735386680763835789423207666416102355444464034512896 * a3) * w = a0 * w + 18446744073709551616 * (a1 * w) + 340282366920938463463374607431768211456 * (a2 * w) + 6277101735386680763835789423207666416102355444464034512896 * (a3 * w) := by
    simp only [Nat.add_mul, Nat.mul_assoc]
  rw [this]
  omega

/-- A number of eight words. -/
def V8 (x0 x1 x2 x3 x4 x5 x6 x7 : Nat) : Nat := V x0 x1 x2 x3 + T256 * V x4 x5 x6 x7
/-- The first words of a number. -/
def lowW (b0 b1 b2 b3 : Nat) : Nat → Nat
  | 0 => 0
  | 1 => b0
  | 2 => b0 + 18446744073709551616 * b1
  | 3 => b0 + 18446744073709551616 * b1 + 340282366920938463463374607431768211456 * b2
  | _ => V b0 b1 b2 b3
theorem mulV_le {a0 a1 a2 a3 w : Nat} (ha : W4 a0 a1 a2 a3) (hw : w < 18446744073709551616) : V a0 a1 a2 a3 * w ≤ 2135987035920910082279229616932235919179133537347964862093771623156579161741164519270975247745025 :=
  Nat.le_trans (Nat.mul_le_mul (Nat.le_sub_one_of_lt (V_lt ha)) (Nat.le_sub_one_of_lt hw)) (by decide +kernel)
theorem row_top {a0 a1 a2 a3 w o0 o1 o2 o3 r0 r1 r2 r3 ov s0 s1 s2 s3 c : Nat} (ha : W4 a0 a1 a2 a3) (hw : w < 18446744073709551616) (ho : W4 o0 o1 o2 o3) (hr : V r0 r1 r2 r3 + T256 * ov = V a0 a1 a2 a3 * w)
    (hs : W4 s0 s1 s2 s3 ∧ c ≤ 1 ∧ V s0 s1 s2 s3 + T256 * c = V o0 o1 o2 o3 + V r0 r1 r2 r3) : ov + c < 18446744073709551616 ∧ V s0 s1 s2 s3 + T256 * (ov + c) = V o0 o1 o2 o3 + V a0 a1 a2 a3 * w := by
  have h1 := mulV_le ha hw
  have h2 := V_lt ho
  have h3 := V_lt hs.1
  refine ⟨?_, by rw [← hr, Nat.mul_add]; omega⟩
  have h4 := hs.2.2
  rw [← hr] at h1
  unfold T256 at *
  omega
theorem prod0 {A b0 b1 b2 b3 x0 x1 x2 x3 s0 s1 s2 s3 t : Nat} (h0 : V8 x0 x1 x2 x3 0 0 0 0 = A * lowW b0 b1 b2 b3 0) (h : V s0 s1 s2 s3 + T256 * t = V x0 x1 x2 x3 + A * b0) : V8 s0 s1 s2 s3 t 0 0 0 = A * lowW b0 b1 b2 b3 1 := by
  have : lowW b0 b1 b2 b3 1 = b0 := rfl
  rw [this]
  have e : lowW b0 b1 b2 b3 0 = 0 := rfl
  rw [e, Nat.mul_zero] at h0
  unfold V8 T256 at *
  unfold V at *
  omega
theorem prod1 {A b0 b1 b2 b3 x0 x1 x2 x3 x4 s0 s1 s2 s3 t : Nat} (h0 : V8 x0 x1 x2 x3 x4 0 0 0 = A * lowW b0 b1 b2 b3 1) (h : V s0 s1 s2 s3 + T256 * t = V x1 x2 x3 x4 + A * b1) : V8 x0 s0 s1 s2 s3 t 0 0 = A * lowW b0 b1 b2 b3 2 := by
  have e : lowW b0 b1 b2 b3 2 = lowW b0 b1 b2 b3 1 + 18446744073709551616 * b1 := rfl
  rw [e, Nat.mul_add, ← h0, Nat.mul_left_comm]
  unfold V8 T256 at *
  unfold V at *
  omega
theorem prod2 {A b0 b1 b2 b3 x0 x1 x2 x3 x4 x5 s0 s1 s2 s3 t : Nat} (h0 : V8 x0 x1 x2 x3 x4 x5 0 0 = A * lowW b0 b1 b2 b3 2) (h : V s0 s1 s2 s3 + T256 * t = V x2 x3 x4 x5 + A * b2) : V8 x0 x1 s0 s1 s2 s3 t 0 = A * lowW b0 b1 b2 b3 3 := by
  have e : lowW b0 b1 b2 b3 3 = lowW b0 b1 b2 b3 2 + 340282366920938463463374607431768211456 * b2 := rfl
  rw [e, Nat.mul_add, ← h0, Nat.mul_left_comm]
  unfold V8 T256 at *
  unfold V at *
  omega
theorem prod3 {A b0 b1 b2 b3 x0 x1 x2 x3 x4 x5 x6 s0 s1 s2 s3 t : Nat} (h0 : V8 x0 x1 x2 x3 x4 x5 x6 0 = A * lowW b0 b1 b2 b3 3) (h : V s0 s1 s2 s3 + T256 * t = V x3 x4 x5 x6 + A * b3) : V8 x0 x1 x2 s0 s1 s2 s3 t = A * lowW b0 b1 b2 b3 4 := by
  have e : lowW b0 b1 b2 b3 4 = lowW b0 b1 b2 b3 3 + 6277101735386680763835789423207666416102355444464034512896 * b3 := rfl
  rw [e, Nat.mul_add, ← h0, Nat.mul_left_comm]
  unfold V8 T256 at *
  unfold V at *
  omega
theorem lowW_lt {b0 b1 b2 b3 : Nat} : lowW b0 b1 b2 b3 4 = V b0 b1 b2 b3 := rfl
theorem word_lt_of_V8 {x0 x1 x2 x3 x4 x5 x6 x7 : Nat} (h : W4 x0 x1 x2 x3) (h' : W4 x4 x5 x6 x7) : V8 x0 x1 x2 x3 x4 x5 x6 x7 < T256 * T256 := by
  have h1 := V_lt h
  have h2 := V_lt h'
  unfold V8
  unfold T256 at *
  omega
end Pl
end Go.Proofs.Ytldnjbpcdojffaa
