/- The reference's key words and block are the cipher's. Conditions: none. -/
import Derived.Test.YtkoackalpcmhaaaZ8
import Derived.Test.YtkoackalpcmhaaaZ1
set_option linter.unusedSectionVars false
namespace Go.Proofs.Ytkoackalpcmhaaa.Am
set_option linter.unusedVariables false
set_option linter.unusedSimpArgs false
open Go Go.RowKit
open Pla (xt mx)
variable [GT]

/-! ### bytes as the reference reckons them -/
theorem inR_nat {a : Int} (h : inR a) : ∃ n : Nat, a = n ∧ n < 256 := ⟨a.toNat, by have := h.1; omega, by have := h.2; omega⟩
theorem inR_of {n : Nat} (h : n < 256) : inR (n : Int) := ⟨by omega, by omega⟩
theorem xo_in {a b : Int} (ha : inR a) (hb : inR b) : inR (xo a b) ∧ bv (xo a b) = bv a ^^^ bv b := by
  obtain ⟨m, rfl, hm⟩ := inR_nat ha
  obtain ⟨n, rfl, hn⟩ := inR_nat hb
  rw [xo_nat (by omega) (by omega)]
  refine ⟨inR_of (Nat.xor_lt_two_pow (n := 8) hm hn), ?_⟩
  unfold bv
  apply BitVec.eq_of_toNat_eq
  rw [BitVec.toNat_xor, BitVec.toNat_ofInt, BitVec.toNat_ofInt, BitVec.toNat_ofInt]
  have hx : m ^^^ n < 256 := Nat.xor_lt_two_pow (n := 8) hm hn
  have e1 : (((m ^^^ n : Nat) : Int) % ((2 ^ 8 : Nat) : Int)).toNat = m ^^^ n := by omega
  have e2 : ((m : Int) % ((2 ^ 8 : Nat) : Int)).toNat = m := by omega
  have e3 : ((n : Int) % ((2 ^ 8 : Nat) : Int)).toNat = n := by omega
  rw [e1, e2, e3]
theorem pT_fin : (List.range 256).all (fun n => (pT (n : Int) 2 == tw n) && (pT (n : Int) 3 == bx (tw n) n)) = true := by decide +kernel
theorem tw_in (a : Int) : inR (tw a) := by
  unfold tw
  split
  · exact bx_range _ _
  · unfold bs
    have : ∀ z : Int, inR (IntKind.u8.wrap z) := fun z => by
      have e : IntKind.u8.wrap z = z % 256 := by simp [IntKind.wrap, IntKind.bits, IntKind.signed]
      rw [e]
      constructor <;> omega
    exact this _
theorem pT2 {a : Int} (ha : inR a) : pT a 2 = tw a := by
  obtain ⟨n, rfl, hn⟩ := inR_nat ha
  have := List.all_eq_true.1 pT_fin n (List.mem_range.2 hn)
  rw [Bool.and_eq_true] at this
  exact beq_iff_eq.1 this.1
theorem pT3 {a : Int} (ha : inR a) : pT a 3 = bx (tw a) a := by
  obtain ⟨n, rfl, hn⟩ := inR_nat ha
  have := List.all_eq_true.1 pT_fin n (List.mem_range.2 hn)
  rw [Bool.and_eq_true] at this
  exact beq_iff_eq.1 this.2
theorem xo_bx {a b : Int} (ha : inR a) (hb : inR b) : xo a b = bx (bx 0 a) b := by
  obtain ⟨h1, h2⟩ := xo_in ha hb
  refine bv_inj h1 (bx_range _ _) ?_
  rw [h2, bv_bx, bv_bx, bv_zero, BitVec.zero_xor]
theorem bx0 {a : Int} (ha : inR a) : bx (bx 0 a) 0 = a := by
  refine bv_inj (bx_range _ _) ha ?_
  rw [bv_bx, bv_bx, bv_zero, BitVec.zero_xor, BitVec.xor_zero]
theorem i64_in {a : Int} (ha : inR a) : IntKind.i64.wrap a = a := i64_small ha.1 (by have := ha.1; have := ha.2; omega)

/-! ### the key's words -/
omit [GT] in
def kxN : Nat → Int
  | 0 => 1
  | n + 1 => kX (kxN n) (8 + n)
omit [GT] in
def ksN (kb : Nat → Int) : Nat → (Nat → Int)
  | 0 => k0W kb
  | n + 1 => updW (ksN kb n) (8 + n) (kW (ksN kb n) (kxN n) (8 + n))
theorem kxN_in : ∀ n, inR (kxN n)
  | 0 => ⟨by decide, by decide⟩
  | n + 1 => by
    have ih := kxN_in n
    unfold kxN kX
    split
    · rw [pT2 ih]; exact tw_in _
    · exact ih
theorem kT_in {W : Nat → Int} {x : Int} (hW : ∀ j, inR (W j)) (hx : inR x) (i : Nat) : ∀ z ∈ kT W x i, inR z := by
  intro z hz
  unfold kT at hz
  split at hz
  · simp only [List.mem_cons, List.not_mem_nil, or_false] at hz
    rcases hz with rfl | rfl | rfl | rfl
    · exact (xo_in (sb_range _) hx).1
    all_goals exact sb_range _
  · simp only [List.mem_cons, List.not_mem_nil, or_false] at hz
    rcases hz with rfl | rfl | rfl | rfl <;> exact sb_range _
  · simp only [List.mem_cons, List.not_mem_nil, or_false] at hz
    rcases hz with rfl | rfl | rfl | rfl <;> exact hW _
theorem kW_in {W : Nat → Int} {x : Int} (hW : ∀ j, inR (W j)) (hx : inR x) (i : Nat) : ∀ z ∈ kW W x i, inR z := by
  intro z hz
  have ht : ∀ k, inR (g2 (kT W x i) k) := fun k => g2_range (kT_in hW hx i) k
  unfold kW at hz
  simp only [List.mem_cons, List.not_mem_nil, or_false] at hz
  rcases hz with rfl | rfl | rfl | rfl <;> exact (xo_in (hW _) (ht _)).1
theorem ksN_in {kb : Nat → Int} (hk : ∀ j, inR (kb j)) : ∀ n j, inR (ksN kb n j)
  | 0, j => by
    show inR (IntKind.i64.wrap (kb j))
    rw [i64_in (hk j)]; exact hk j
  | n + 1, j => by
    unfold ksN updW
    split
    · exact g2_range (kW_in (ksN_in hk n) (kxN_in n) _) _
    · exact ksN_in hk n j
theorem lt_sbox {z : Int} (h : inR z) : z.toNat < sbox.length := by
  have := h.2
  have : sbox.length = 256 := by decide +kernel
  omega
theorem kP0_ok {W : Nat → Int} (hW : ∀ j, inR (W j)) (i : Nat) : AllP (kP0 W i) := ⟨hW _, lt_sbox (hW _), hW _, lt_sbox (hW _), hW _, lt_sbox (hW _), hW _, lt_sbox (hW _), ⟨by decide, by decide⟩, trivial⟩
theorem kP4_ok {W : Nat → Int} (hW : ∀ j, inR (W j)) (i : Nat) : AllP (kP4 W i) := AllP_append (rP_ok (hW _)) (AllP_append (rP_ok (hW _)) (AllP_append (rP_ok (hW _)) (rP_ok (hW _))))
theorem kX0 (x : Int) {i : Nat} (h : i % 8 = 0) : kX x i = pT x 2 := by
  simp only [kX, h]
theorem k_step (kb W : Nat → Int) (x : Int) (hW : ∀ j, inR (W j)) (m : Nat) : ∀ n, n < 52 → Reaches Try.prog 0 (hdAt fRK 9 [] (m + 1)) (kS kb W x (8 + n)) (hdAt fRK 9 [] m) (kS kb (updW W (8 + n) (kW W x (8 + n))) (kX x (8 + n)) (8 + n + 1))
  | 0, _ => by
    rw [kX0 x (show (8 + 0) % 8 = 0 from rfl)]
    exact Reaches.one ((Reaches.run tyT_ok kO_ok mixed_ (k_roundA8 kb W x m) (kP0_ok hW 8)).trans (Reaches.run tyT_ok kO_ok mixed_ (k_roundB8 kb W (pT x 2) _ _ _ _ m) trivial))
  | 1, _ => Reaches.one (Reaches.run tyT_ok kO_ok mixed_ (k_round9 kb W x m) trivial)
  | 2, _ => Reaches.one (Reaches.run tyT_ok kO_ok mixed_ (k_round10 kb W x m) trivial)
  | 3, _ => Reaches.one (Reaches.run tyT_ok kO_ok mixed_ (k_round11 kb W x m) trivial)
  | 4, _ => Reaches.one (Reaches.run tyT_ok kO_ok mixed_ (k_round12 kb W x m) (kP4_ok hW 12))
  | 5, _ => Reaches.one (Reaches.run tyT_ok kO_ok mixed_ (k_round13 kb W x m) trivial)
  | 6, _ => Reaches.one (Reaches.run tyT_ok kO_ok mixed_ (k_round14 kb W x m) trivial)
  | 7, _ => Reaches.one (Reaches.run tyT_ok kO_ok mixed_ (k_round15 kb W x m) trivial)
  | 8, _ => by
    rw [kX0 x (show (8 + 8) % 8 = 0 from rfl)]
    exact Reaches.one ((Reaches.run tyT_ok kO_ok mixed_ (k_roundA16 kb W x m) (kP0_ok hW 16)).trans (Reaches.run tyT_ok kO_ok mixed_ (k_roundB16 kb W (pT x 2) _ _ _ _ m) trivial))
  | 9, _ => Reaches.one (Reaches.run tyT_ok kO_ok mixed_ (k_round17 kb W x m) trivial)
  | 10, _ => Reaches.one (Reaches.run tyT_ok kO_ok mixed_ (k_round18 kb W x m) trivial)
  | 11, _ => Reaches.one (Reaches.run tyT_ok kO_ok mixed_ (k_round19 kb W x m) trivial)
  | 12, _ => Reaches.one (Reaches.run tyT_ok kO_ok mixed_ (k_round20 kb W x m) (kP4_ok hW 20))
  | 13, _ => Reaches.one (Reaches.run tyT_ok kO_ok mixed_ (k_round21 kb W x m) trivial)
  | 14, _ => Reaches.one (Reaches.run tyT_ok kO_ok mixed_ (k_round22 kb W x m) trivial)
  | 15, _ => Reaches.one (Reaches.run tyT_ok kO_ok mixed_ (k_round23 kb W x m) trivial)
  | 16, _ => by
    rw [kX0 x (show (8 + 16) % 8 = 0 from rfl)]
    exact Reaches.one ((Reaches.run tyT_ok kO_ok mixed_ (k_roundA24 kb W x m) (kP0_ok hW 24)).trans (Reaches.run tyT_ok kO_ok mixed_ (k_roundB24 kb W (pT x 2) _ _ _ _ m) trivial))
  | 17, _ => Reaches.one (Reaches.run tyT_ok kO_ok mixed_ (k_round25 kb W x m) trivial)
  | 18, _ => Reaches.one (Reaches.run tyT_ok kO_ok mixed_ (k_round26 kb W x m) trivial)
  | 19, _ => Reaches.one (Reaches.run tyT_ok kO_ok mixed_ (k_round27 kb W x m) trivial)
  | 20, _ => Reaches.one (Reaches.run tyT_ok kO_ok mixed_ (k_round28 kb W x m) (kP4_ok hW 28))
  | 21, _ => Reaches.one (Reaches.run tyT_ok kO_ok mixed_ (k_round29 kb W x m) trivial)
  | 22, _ => Reaches.one (Reaches.run tyT_ok kO_ok mixed_ (k_round30 kb W x m) trivial)
  | 23, _ => Reaches.one (Reaches.run tyT_ok kO_ok mixed_ (k_round31 kb W x m) trivial)
  | 24, _ => by
    rw [kX0 x (show (8 + 24) % 8 = 0 from rfl)]
    exact Reaches.one ((Reaches.run tyT_ok kO_ok mixed_ (k_roundA32 kb W x m) (kP0_ok hW 32)).trans (Reaches.run tyT_ok kO_ok mixed_ (k_roundB32 kb W (pT x 2) _ _ _ _ m) trivial))
  | 25, _ => Reaches.one (Reaches.run tyT_ok kO_ok mixed_ (k_round33 kb W x m) trivial)
  | 26, _ => Reaches.one (Reaches.run tyT_ok kO_ok mixed_ (k_round34 kb W x m) trivial)
  | 27, _ => Reaches.one (Reaches.run tyT_ok kO_ok mixed_ (k_round35 kb W x m) trivial)
  | 28, _ => Reaches.one (Reaches.run tyT_ok kO_ok mixed_ (k_round36 kb W x m) (kP4_ok hW 36))
  | 29, _ => Reaches.one (Reaches.run tyT_ok kO_ok mixed_ (k_round37 kb W x m) trivial)
  | 30, _ => Reaches.one (Reaches.run tyT_ok kO_ok mixed_ (k_round38 kb W x m) trivial)
  | 31, _ => Reaches.one (Reaches.run tyT_ok kO_ok mixed_ (k_round39 kb W x m) trivial)
  | 32, _ => by
    rw [kX0 x (show (8 + 32) % 8 = 0 from rfl)]
    exact Reaches.one ((Reaches.run tyT_ok kO_ok mixed_ (k_roundA40 kb W x m) (kP0_ok hW 40)).trans (Reaches.run tyT_ok kO_ok mixed_ (k_roundB40 kb W (pT x 2) _ _ _ _ m) trivial))
  | 33, _ => Reaches.one (Reaches.run tyT_ok kO_ok mixed_ (k_round41 kb W x m) trivial)
  | 34, _ => Reaches.one (Reaches.run tyT_ok kO_ok mixed_ (k_round42 kb W x m) trivial)
  | 35, _ => Reaches.one (Reaches.run tyT_ok kO_ok mixed_ (k_round43 kb W x m) trivial)
  | 36, _ => Reaches.one (Reaches.run tyT_ok kO_ok mixed_ (k_round44 kb W x m) (kP4_ok hW 44))
  | 37, _ => Reaches.one (Reaches.run tyT_ok kO_ok mixed_ (k_round45 kb W x m) trivial)
  | 38, _ => Reaches.one (Reaches.run tyT_ok kO_ok mixed_ (k_round46 kb W x m) trivial)
  | 39, _ => Reaches.one (Reaches.run tyT_ok kO_ok mixed_ (k_round47 kb W x m) trivial)
  | 40, _ => by
    rw [kX0 x (show (8 + 40) % 8 = 0 from rfl)]
    exact Reaches.one ((Reaches.run tyT_ok kO_ok mixed_ (k_roundA48 kb W x m) (kP0_ok hW 48)).trans (Reaches.run tyT_ok kO_ok mixed_ (k_roundB48 kb W (pT x 2) _ _ _ _ m) trivial))
  | 41, _ => Reaches.one (Reaches.run tyT_ok kO_ok mixed_ (k_round49 kb W x m) trivial)
  | 42, _ => Reaches.one (Reaches.run tyT_ok kO_ok mixed_ (k_round50 kb W x m) trivial)
  | 43, _ => Reaches.one (Reaches.run tyT_ok kO_ok mixed_ (k_round51 kb W x m) trivial)
  | 44, _ => Reaches.one (Reaches.run tyT_ok kO_ok mixed_ (k_round52 kb W x m) (kP4_ok hW 52))
  | 45, _ => Reaches.one (Reaches.run tyT_ok kO_ok mixed_ (k_round53 kb W x m) trivial)
  | 46, _ => Reaches.one (Reaches.run tyT_ok kO_ok mixed_ (k_round54 kb W x m) trivial)
  | 47, _ => Reaches.one (Reaches.run tyT_ok kO_ok mixed_ (k_round55 kb W x m) trivial)
  | 48, _ => by
    rw [kX0 x (show (8 + 48) % 8 = 0 from rfl)]
    exact Reaches.one ((Reaches.run tyT_ok kO_ok mixed_ (k_roundA56 kb W x m) (kP0_ok hW 56)).trans (Reaches.run tyT_ok kO_ok mixed_ (k_roundB56 kb W (pT x 2) _ _ _ _ m) trivial))
  | 49, _ => Reaches.one (Reaches.run tyT_ok kO_ok mixed_ (k_round57 kb W x m) trivial)
  | 50, _ => Reaches.one (Reaches.run tyT_ok kO_ok mixed_ (k_round58 kb W x m) trivial)
  | 51, _ => Reaches.one (Reaches.run tyT_ok kO_ok mixed_ (k_round59 kb W x m) trivial)
  | n + 52, h => absurd h (by omega)
theorem k_steps (kb : Nat → Int) (hk : ∀ j, inR (kb j)) (m : Nat) : ∀ n, n ≤ 52 → Reaches Try.prog 0 (hdAt fRK 9 [] (m + n)) (kS kb (k0W kb) 1 8) (hdAt fRK 9 [] m) (kS kb (ksN kb n) (kxN n) (8 + n))
  | 0, _ => Reaches.refl
  | n + 1, h => by
    have ih := k_steps kb hk (m + 1) n (by omega)
    rw [show m + 1 + n = m + (n + 1) by omega] at ih
    exact ih.trans (k_step kb (ksN kb n) (kxN n) (ksN_in hk n) m n (by omega))
theorem keys_ends (kb : Nat → Int) (hk : ∀ j, inR (kb j)) : Ends Try.prog tyT [] fRK [.sl .u8 (keyL 32 kb), .ag .i64 sbox] { pre := True, val := .av (.one (.r 0 0 240 0)), new := [⟨1, 3, [.arr .i64 (keyL 240 (ksN kb 52))]⟩] } := by
  refine ⟨[.fin], kEnd kb (ksN kb 52), .av (.one (.r 2 0 240 0)), [2], .inr rfl, ?_, by kernel_rfl, by kernel_rfl, by kernel_rfl⟩
  refine (From.run tyT_ok kO_ok mixed_ (k_start kb) trivial).trans (Reaches.rounds 53 ?_)
  have h1 := k_steps kb hk 1 52 (Nat.le_refl _)
  exact h1.trans (Reaches.one (Reaches.run tyT_ok kO_ok mixed_ (k_end kb (ksN kb 52) (kxN 52) 0) trivial))
omit [GT] in
def eKeysF : List CA → Option CR
  | [.sl .u8 key, .ag .i64 box] => some { pre := key.length = 32 ∧ box = sbox ∧ ∀ j, inR (g2 key j), val := .av (.one (.r 0 0 240 0)), new := [⟨1, 3, [.arr .i64 (keyL 240 (ksN (g2 key) 52))]⟩] }
  | _ => none
theorem keys_ent : EntOK Try.prog 15 (entC [.sl .u8, .ag .i64] eKeysF) := by
  refine ok_C tyT_ok Try.func15 (by kernel_rfl) (by kernel_rfl) [] (fun x hx => by cases hx) (by kernel_rfl) fun cas r hF hp => ?_
  unfold eKeysF at hF
  split at hF
  · rename_i key box
    injection hF with hF
    subst hF
    obtain ⟨h1, rfl, h3⟩ := hp
    have := keys_ends (g2 key) h3
    rw [keyL_g2 h1] at this
    exact this
  · cases hF

/-! ### the block -/
omit [GT] in
def rbN (W bf : Nat → Int) : Nat → (Nat → Int)
  | 0 => rb0 W bf
  | n + 1 => rbR W (rbN W bf n) (n + 1)
omit [GT] in
def rbF (W bf : Nat → Int) : Nat → Int := rbL W (rbN W bf 13)
theorem rbT_in (S : Nat → Int) (j : Nat) : inR (rbT S j) := sb_range _
theorem rbV_in (S : Nat → Int) (j : Nat) : inR (rbV S j) := by
  unfold rbV
  refine (xo_in (xo_in (xo_in ?_ ?_).1 (rbT_in _ _)).1 (rbT_in _ _)).1
  · rw [pT2 (rbT_in _ _)]; exact tw_in _
  · rw [pT3 (rbT_in _ _)]; exact bx_range _ _
theorem rbN_in {W bf : Nat → Int} (hW : ∀ j, inR (W j)) (hb : ∀ j, inR (bf j)) : ∀ n j, inR (rbN W bf n j)
  | 0, j => by
    show inR (xo (IntKind.i64.wrap (bf j)) (W j))
    rw [i64_in (hb j)]; exact (xo_in (hb j) (hW j)).1
  | n + 1, j => (xo_in (rbV_in _ _) (hW _)).1
theorem rbQ_ok {S : Nat → Int} (hS : ∀ j, inR (S j)) : ∀ n j, AllP (rbQ S j n)
  | 0, _ => trivial
  | n + 1, j => ⟨hS _, lt_sbox (hS _), rbQ_ok hS n (j + 1)⟩
theorem rbU_ok : ∀ n, AllP (rbU n)
  | 0 => trivial
  | n + 1 => ⟨⟨by decide, by decide⟩, ⟨by decide, by decide⟩, rbU_ok n⟩
theorem rbP_ok {S : Nat → Int} (hS : ∀ j, inR (S j)) (n : Nat) : AllP (rbP S n) := AllP_append (rbQ_ok hS 16 0) (rbU_ok n)
theorem rb_ends (W bf : Nat → Int) (hW : ∀ j, inR (W j)) (hb : ∀ j, inR (bf j)) : Ends Try.prog tyT [] fRB [.sl .i64 (keyL 240 W), .ag .i64 sbox, .ag .u8 (keyL 16 bf)] { pre := True, val := .av (.one (.arr .u8 (keyL 16 fun j => IntKind.u8.wrap (rbF W bf j)))) } := by
  refine ⟨[.fin], rbEnd W (rbF W bf), .av (.one (.arr .u8 (keyL 16 fun j => IntKind.u8.wrap (rbF W bf j)))), [], .inr rfl, ?_, by kernel_rfl, by kernel_rfl, by kernel_rfl⟩
  have hN := rbN_in hW hb
  refine (From.run tyT_ok kO_ok mixed_ (rb_start W bf) trivial).trans (Reaches.rounds 15 ?_)
  refine (Reaches.one (Reaches.run tyT_ok kO_ok mixed_ (rb_round1 W (rbN W bf 0) 14) (rbP_ok (hN 0) 16))).trans ?_
  refine (Reaches.one (Reaches.run tyT_ok kO_ok mixed_ (rb_round2 W (rbN W bf 1) 13) (rbP_ok (hN 1) 16))).trans ?_
  refine (Reaches.one (Reaches.run tyT_ok kO_ok mixed_ (rb_round3 W (rbN W bf 2) 12) (rbP_ok (hN 2) 16))).trans ?_
  refine (Reaches.one (Reaches.run tyT_ok kO_ok mixed_ (rb_round4 W (rbN W bf 3) 11) (rbP_ok (hN 3) 16))).trans ?_
  refine (Reaches.one (Reaches.run tyT_ok kO_ok mixed_ (rb_round5 W (rbN W bf 4) 10) (rbP_ok (hN 4) 16))).trans ?_
  refine (Reaches.one (Reaches.run tyT_ok kO_ok mixed_ (rb_round6 W (rbN W bf 5) 9) (rbP_ok (hN 5) 16))).trans ?_
  refine (Reaches.one (Reaches.run tyT_ok kO_ok mixed_ (rb_round7 W (rbN W bf 6) 8) (rbP_ok (hN 6) 16))).trans ?_
  refine (Reaches.one (Reaches.run tyT_ok kO_ok mixed_ (rb_round8 W (rbN W bf 7) 7) (rbP_ok (hN 7) 16))).trans ?_
  refine (Reaches.one (Reaches.run tyT_ok kO_ok mixed_ (rb_round9 W (rbN W bf 8) 6) (rbP_ok (hN 8) 16))).trans ?_
  refine (Reaches.one (Reaches.run tyT_ok kO_ok mixed_ (rb_round10 W (rbN W bf 9) 5) (rbP_ok (hN 9) 16))).trans ?_
  refine (Reaches.one (Reaches.run tyT_ok kO_ok mixed_ (rb_round11 W (rbN W bf 10) 4) (rbP_ok (hN 10) 16))).trans ?_
  refine (Reaches.one (Reaches.run tyT_ok kO_ok mixed_ (rb_round12 W (rbN W bf 11) 3) (rbP_ok (hN 11) 16))).trans ?_
  refine (Reaches.one (Reaches.run tyT_ok kO_ok mixed_ (rb_round13 W (rbN W bf 12) 2) (rbP_ok (hN 12) 16))).trans ?_
  refine (Reaches.one (Reaches.run tyT_ok kO_ok mixed_ (rb_round14 W (rbN W bf 13) 1) (rbP_ok (hN 13) 0))).trans ?_
  exact Reaches.one (Reaches.run tyT_ok kO_ok mixed_ (rb_end W (rbF W bf) 0) trivial)
omit [GT] in
def refBl (w b : List Int) : List Int := keyL 16 fun j => IntKind.u8.wrap (rbF (g2 w) (g2 b) j)
omit [GT] in
def eRBF : List CA → Option CR
  | [.sl .i64 w, .ag .i64 box, .ag .u8 b] => some { pre := w.length = 240 ∧ box = sbox ∧ b.length = 16 ∧ (∀ j, inR (g2 w j)) ∧ ∀ j, inR (g2 b j), val := .av (.one (.arr .u8 (refBl w b))) }
  | _ => none
theorem rblock_ent : EntOK Try.prog 14 (entC [.sl .i64, .ag .i64, .ag .u8] eRBF) := by
  refine ok_C tyT_ok Try.func14 (by kernel_rfl) (by kernel_rfl) [] (fun x hx => by cases hx) (by kernel_rfl) fun cas r hF hp => ?_
  unfold eRBF at hF
  split at hF
  · rename_i w box b
    injection hF with hF
    subst hF
    obtain ⟨h1, rfl, h3, h4, h5⟩ := hp
    have := rb_ends (g2 w) (g2 b) h4 h5
    rw [keyL_g2 h1, keyL_g2 h3] at this
    exact this
  · cases hF

/-! ### the same -/
theorem ws_low (kb : Nat → Int) : ∀ i, i ≤ 8 → (∀ j, j < 4 * i → wsN kb i j = kb j) ∧ xsN i = 1
  | 0, _ => ⟨fun j h => by omega, rfl⟩
  | i + 1, h => by
    obtain ⟨h1, h2⟩ := ws_low kb i (by omega)
    have hb : Nat.blt i 8 = true := Nat.ble_eq_true_of_le (by omega)
    refine ⟨fun j hj => ?_, ?_⟩
    · unfold wsN updW newW
      rw [hb]
      split
      · rename_i he
        have h4 : j = 4 * i + j % 4 := by omega
        have hm : j % 4 < 4 := Nat.mod_lt _ (by decide)
        generalize hq : j % 4 = q at *
        subst h4
        match q, hm with
        | 0, _ => rfl
        | 1, _ => rfl
        | 2, _ => rfl
        | 3, _ => rfl
      · exact h1 j (by omega)
    · unfold xsN newX
      rw [hb]
      exact h2
theorem wx2_at (a b c d e f g h : Int) (k : Nat) (hk : k < 4) : g2 (wx [a, b, c, d, e, f, g, h] 2) k = bx (bx 0 (g2 [a, b, c, d] k)) (g2 [e, f, g, h] k) := by
  match k, hk with
  | 0, _ => rfl
  | 1, _ => rfl
  | 2, _ => rfl
  | 3, _ => rfl
theorem ks_ws {kb : Nat → Int} (hk : ∀ j, inR (kb j)) : ∀ n, n ≤ 52 → (∀ j, j < 4 * (8 + n) → ksN kb n j = wsN kb (8 + n) j) ∧ kxN n = xsN (8 + n)
  | 0, _ => by
    obtain ⟨h1, h2⟩ := ws_low kb 8 (Nat.le_refl _)
    exact ⟨fun j hj => by rw [h1 j hj]; exact i64_in (hk j), h2.symm⟩
  | n + 1, h => by
    obtain ⟨h1, h2⟩ := ks_ws hk n (by omega)
    have hV : ∀ i j, inR (wsN kb i j) := wsN_range fun j _ => hk j
    have hx : inR (xsN (8 + n)) := h2 ▸ kxN_in n
    have hb : Nat.blt (8 + n) 8 = false := by
      cases hq : Nat.blt (8 + n) 8 with
      | false => rfl
      | true => have := Nat.le_of_ble_eq_true hq; omega
    refine ⟨fun j hj => ?_, ?_⟩
    · show updW (ksN kb n) (8 + n) (kW (ksN kb n) (kxN n) (8 + n)) j = updW (wsN kb (8 + n)) (8 + n) (newW kb (wsN kb (8 + n)) (xsN (8 + n)) (8 + n)) j
      unfold updW
      split
      · rename_i he
        have hm : j % 4 < 4 := Nat.mod_lt _ (by decide)
        generalize hq : j % 4 = q at *
        generalize hi : 8 + n = i at *
        generalize hw : wsN kb i = V at *
        have hV' : ∀ j, inR (V j) := fun j => hw ▸ hV i j
        rw [h2]
        generalize xsN i = x at *
        have g : ∀ d, 1 ≤ d → ksN kb n (4 * i - d) = V (4 * i - d) := fun d hd => h1 _ (by omega)
        have e0 : w4 V (i - 8) = [V (4 * i - 32), V (4 * i - 31), V (4 * i - 30), V (4 * i - 29)] := by
          unfold w4
          rw [show 4 * (i - 8) = 4 * i - 32 by omega, show 4 * i - 32 + 1 = 4 * i - 31 by omega, show 4 * i - 32 + 2 = 4 * i - 30 by omega, show 4 * i - 32 + 3 = 4 * i - 29 by omega]
        have e1 : w4 V (i - 1) = [V (4 * i - 4), V (4 * i - 3), V (4 * i - 2), V (4 * i - 1)] := by
          unfold w4
          rw [show 4 * (i - 1) = 4 * i - 4 by omega, show 4 * i - 4 + 1 = 4 * i - 3 by omega, show 4 * i - 4 + 2 = 4 * i - 2 by omega, show 4 * i - 4 + 3 = 4 * i - 1 by omega]
        have hT : ∀ l : List Int, (∀ z ∈ l, inR z) → l = kT V x i → g2 (kW (ksN kb n) x i) q = bx (bx 0 (g2 [V (4 * i - 32), V (4 * i - 31), V (4 * i - 30), V (4 * i - 29)] q)) (g2 l q) := by
          intro l hl he
          have ek : kT (ksN kb n) x i = kT V x i := by
            unfold kT
            rw [g 1 (by omega), g 2 (by omega), g 3 (by omega), g 4 (by omega)]
          unfold kW
          rw [ek, ← he, g 32 (by omega), g 31 (by omega), g 30 (by omega), g 29 (by omega)]
          have r := fun k => g2_range hl k
          match q, hm with
          | 0, _ => exact xo_bx (hV' _) (r 0)
          | 1, _ => exact xo_bx (hV' _) (r 1)
          | 2, _ => exact xo_bx (hV' _) (r 2)
          | 3, _ => exact xo_bx (hV' _) (r 3)
        have hr := kT_in hV' hx i
        rw [hT _ hr rfl]
        unfold newW
        rw [hb]
        simp only
        unfold kT
        split
        · rename_i h0
          simp only [h0]
          rw [e0]
          have e2 : wx [sb (V (4 * i - 3)), sb (V (4 * i - 2)), sb (V (4 * i - 1)), sb (V (4 * i - 4)), x, 0, 0, 0] 2 = [bx (bx 0 (sb (V (4 * i - 3)))) x, bx (bx 0 (sb (V (4 * i - 2)))) 0, bx (bx 0 (sb (V (4 * i - 1)))) 0, bx (bx 0 (sb (V (4 * i - 4)))) 0] := rfl
          rw [e2, bx0 (sb_range _), bx0 (sb_range _), bx0 (sb_range _), ← xo_bx (sb_range _) hx]
          exact (wx2_at _ _ _ _ _ _ _ _ q hm).symm
        · rename_i h0
          simp only [h0]
          rw [e0]
          exact (wx2_at _ _ _ _ _ _ _ _ q hm).symm
        · rename_i h0 h4
          split
          · rename_i h; exact absurd h h0
          · rename_i h; exact absurd h h4
          · rw [e0, e1]
            exact (wx2_at _ _ _ _ _ _ _ _ q hm).symm
      · exact h1 j (by omega)
    · show kX (kxN n) (8 + n) = newX (xsN (8 + n)) (8 + n)
      unfold kX newX
      rw [hb, h2]
      simp only
      split
      · rename_i h0
        simp only [h0]
        exact pT2 hx
      · rename_i h0
        split
        · rename_i h; exact absurd h h0
        · rfl
theorem idx_eq : ∀ j, j < 16 → (j + 4 * (j % 4)) % 16 = 4 * ((j / 4 + j % 4) % 4) + j % 4 := by decide
theorem rbT_eq (S : Nat → Int) (j : Nat) (hj : j < 16) : rbT S j = gRow S j := by
  unfold rbT gRow
  rw [idx_eq j hj]
theorem rbV_eq (S : Nat → Int) (j : Nat) (hj : j < 16) : rbV S j = gMix (gRow S) j := by
  refine bv_inj (rbV_in _ _) (gMix_in (gRow S) j hj) ?_
  have hc : j = 4 * (j / 4) + j % 4 := by omega
  have hm : j % 4 < 4 := Nat.mod_lt _ (by decide)
  have hd : j / 4 < 4 := by omega
  generalize j % 4 = k at *
  generalize j / 4 = c at *
  subst hc
  rw [gMix_at _ c k hm]
  unfold rbV
  have d1 : (4 * c + k) / 4 = c := by omega
  have d2 : (4 * c + k) % 4 = k := by omega
  rw [d1, d2]
  have hp2 := bv_tw (rbT S (4 * c + k))
  have x1 : ∀ a b c d : Int, inR a → inR b → inR c → inR d → bv (xo (xo (xo (pT a 2) (pT b 3)) c) d) = mx (bv a) (bv b) (bv c) (bv d) := fun a b c d ha hb hc hd => by
    have i2 : inR (pT a 2) := by rw [pT2 ha]; exact tw_in _
    have i3 : inR (pT b 3) := by rw [pT3 hb]; exact bx_range _ _
    rw [(xo_in (xo_in (xo_in i2 i3).1 hc).1 hd).2, (xo_in (xo_in i2 i3).1 hc).2, (xo_in i2 i3).2, pT2 ha, pT3 hb, bv_bx, bv_tw, bv_tw]
    unfold mx
    rw [← BitVec.xor_assoc]
  rw [x1 _ _ _ _ (rbT_in _ _) (rbT_in _ _) (rbT_in _ _) (rbT_in _ _)]
  obtain ⟨m0, m1, m2, m3⟩ := mixW_bv (gRow S (4 * c)) (gRow S (4 * c + 1)) (gRow S (4 * c + 2)) (gRow S (4 * c + 3))
  have r := fun q (hq : q < 4) => rbT_eq S (4 * c + q) (by omega)
  have r0' : rbT S (4 * c + 0) = gRow S (4 * c) := r 0 (by omega)
  have r0 := r 0 (by omega)
  rw [Nat.add_zero] at r0
  match k, hm with
  | 0, _ =>
    rw [m0]
    show mx (bv (rbT S (4 * c))) (bv (rbT S (4 * c + 1))) (bv (rbT S (4 * c + 2))) (bv (rbT S (4 * c + 3))) = _
    rw [r0, r 1 (by omega), r 2 (by omega), r 3 (by omega)]
  | 1, _ =>
    rw [m1]
    show mx (bv (rbT S (4 * c + 1))) (bv (rbT S (4 * c + 2))) (bv (rbT S (4 * c + 3))) (bv (rbT S (4 * c + 0))) = _
    rw [r0', r 1 (by omega), r 2 (by omega), r 3 (by omega)]
  | 2, _ =>
    rw [m2]
    show mx (bv (rbT S (4 * c + 2))) (bv (rbT S (4 * c + 3))) (bv (rbT S (4 * c + 0))) (bv (rbT S (4 * c + 1))) = _
    rw [r0', r 1 (by omega), r 2 (by omega), r 3 (by omega)]
  | 3, _ =>
    rw [m3]
    show mx (bv (rbT S (4 * c + 3))) (bv (rbT S (4 * c + 0))) (bv (rbT S (4 * c + 1))) (bv (rbT S (4 * c + 2))) = _
    rw [r0', r 1 (by omega), r 2 (by omega), r 3 (by omega)]
theorem add_xo (kf g : Nat → Int) (r j : Nat) {a w : Int} (ha : inR a) (hw : inR w) (e1 : a = g j) (e2 : w = kf (16 * r + j)) : xo a w = gAdd kf r g j := by
  rw [gAdd_eq, xo_bx ha hw, e1, e2]
theorem gMix_cong {g h : Nat → Int} (e : EqOn g h) : EqOn (gMix g) (gMix h) := fun i hi => gMix_congr e i hi
theorem rb_rnds {W kf bf : Nat → Int} (hW : ∀ j, inR (W j)) (hb : ∀ j, inR (bf j)) (e : ∀ j, j < 240 → W j = kf j) : ∀ n, n ≤ 13 → EqOn (rbN W bf n) (fun j => rnds kf 1 n (gAdd kf 0 bf) j)
  | 0, _ => fun j hj => by
    show xo (IntKind.i64.wrap (bf j)) (W j) = gAdd kf 0 bf j
    rw [i64_in (hb j)]
    exact add_xo kf bf 0 j (hb j) (hW j) rfl (by rw [e j (by omega)]; congr 1; omega)
  | n + 1, h => fun j hj => by
    have ih := rb_rnds hW hb e n (by omega)
    have e3 : rnds kf 1 (n + 1) (gAdd kf 0 bf) = gAdd kf (1 + n) (gMix (gRow (rnds kf 1 n (gAdd kf 0 bf)))) := rnds_snoc kf n 1 _
    show xo (rbV (rbN W bf n) j) (W (16 * (n + 1) + j)) = rnds kf 1 (n + 1) (gAdd kf 0 bf) j
    rw [e3]
    refine add_xo kf _ (1 + n) j (rbV_in _ _) (hW _) ?_ ?_
    · rw [rbV_eq _ j hj]
      exact gMix_congr (fun i hi => gRow_congr (fun i hi => ih i hi) i hi) j hj
    · rw [e _ (by omega)]; congr 1; omega
where
  rnds_snoc (kf : Nat → Int) : ∀ (n r : Nat) (g : Nat → Int), rnds kf r (n + 1) g = gAdd kf (r + n) (gMix (gRow (rnds kf r n g)))
    | 0, r, g => rfl
    | n + 1, r, g => by
      show rnds kf (r + 1) (n + 1) (gAdd kf r (gMix (gRow g))) = _
      rw [rnds_snoc kf n (r + 1)]
      show _ = gAdd kf (r + (n + 1)) (gMix (gRow (rnds kf (r + 1) n (gAdd kf r (gMix (gRow g))))))
      rw [show r + 1 + n = r + (n + 1) by omega]
/-- The reference's block is the cipher's. -/
theorem refBl_enc {w ks b : List Int} (hW : ∀ j, inR (g2 w j)) (hb : ∀ j, inR (g2 b j)) (e : ∀ j, j < 240 → g2 w j = g2 ks j) : refBl w b = encL ks b := by
  unfold refBl encL
  refine keyL_congr fun j hj => ?_
  have h := rb_rnds (kf := g2 ks) hW hb e 13 (Nat.le_refl _)
  have e1 : rbF (g2 w) (g2 b) j = encG (g2 ks) (g2 b) j := by
    refine add_xo (g2 ks) _ 14 j (rbT_in _ _) (hW _) ?_ (e _ (by omega))
    rw [rbT_eq _ j hj]
    exact gRow_congr (fun i hi => h i hi) j hj
  rw [e1]
  have : inR (encG (g2 ks) (g2 b) j) := by
    unfold encG
    rw [gAdd_eq]
    exact bx_range _ _
  obtain ⟨h1, h2⟩ := this
  exact w8 h1 (by omega)
end Go.Proofs.Ytkoackalpcmhaaa.Am
/- Law 05's blocks: of any key, or that it is none. Conditions: none. -/
namespace Go.Proofs.Ytkoackalpcmhaaa.Am
set_option linter.unusedVariables false
set_option linter.unusedSimpArgs false
open Go Go.RowKit
variable [GT]

omit [GT] in
noncomputable abbrev fNw : Func := Try.f11
omit [GT] in
/-- New of a key that is none. -/
def eNB : List CA → Option CR
  | [.sl .u8 key] => some { pre := key.length ≠ 32, val := .tup [.one (.v (.pointer none)), .one (.v (.int .i64 3))] }
  | _ => none
omit [GT] in
def nbEnd (key : List Int) : St := { tm := tmL 89 [(2, ofV (.pointer none)), (3, ofV (.int .i64 3))], hp := [(0, ⟨2, 0, [.arr .u8 key]⟩)], nx := 1, gl := [] }
theorem nb_run (key : List Int) : runF tyT [] (atH 1 2 (isB true) noH) [] 1 [] [2, 3] fNw (canA [.sl .u8 key] 0) (canH [.sl .u8 key] 0 ++ gH [] 1) 1 [] = some ([.fin], nbEnd key, [tB ((key.length : Int) != 32) true]) := by kernel_rfl
theorem newbad_ent : EntOK Try.prog 11 (entC [.sl .u8] eNB) := by
  refine ok_C tyT_ok Try.func11 (by kernel_rfl) (by kernel_rfl) [] (fun x hx => by cases hx) (by kernel_rfl) fun cas r hF hp => ?_
  unfold eNB at hF
  split at hF
  · rename_i key
    injection hF with hF
    subst hF
    have hp : key.length ≠ 32 := hp
    exact ⟨[.fin], nbEnd key, .tup [.one (.v (.pointer none)), .one (.v (.int .i64 3))], [], .inr rfl, From.run tyT_ok nil_ok mixed_ (nb_run key) ⟨tB_ne.2 (by omega), trivial⟩, by kernel_rfl, by kernel_rfl, by kernel_rfl⟩
  · cases hF

omit [GT] in
noncomputable abbrev fLB : Func := Try.f3
omit [GT] in
noncomputable def lbO (e : Ent) : List (Nat × Ent) := [(10, eTrue), (11, e), (12, eBoxes), (13, eBlock), (14, entC [.sl .i64, .ag .i64, .ag .u8] eRBF), (15, entC [.sl .u8, .ag .i64] eKeysF)]
theorem lbO_ok {e : Ent} (h : EntOK Try.prog 11 e) : OOK Try.prog (lbO e) := ook_of (l := lbO e) ⟨awake_ent, h, boxes_ent, block_ent, rblock_ent, keys_ent, trivial⟩
omit [GT] in
def lbA (n cap : Nat) (bf : Nat → Int) : List SV := [.av (.one (.s 0 0 n cap)), .av (.one (.arr .u8 (keyL 16 bf)))]
omit [GT] in
def lbHp (key : List Int) : List (Nat × Blk) := [(0, ⟨2, 0, [.arr .u8 key]⟩)]
omit [GT] in
def lbEnd (key : List Int) : St := { tm := tmL 49 [(4, ofV (.bool true))], hp := lbHp key, nx := 1, gl := [] }
theorem lb_long (key : List Int) (cap : Nat) (bf : Nat → Int) : runF tyT (lbO (entC [.sl .u8] eNB)) (atH 1 6 (isB true) noH) [] 1 [] [4] fLB (lbA key.length cap bf) (lbHp key) 1 [] = some ([.fin], lbEnd key, [tB (decide ((key.length : Int) > 100)) true]) := by kernel_rfl
theorem lb_bad (key : List Int) (cap : Nat) (bf : Nat → Int) : runF tyT (lbO (entC [.sl .u8] eNB)) (atH 1 6 (isB false) (atH 4 2 (isB true) noH)) [] 1 [] [4] fLB (lbA key.length cap bf) (lbHp key) 1 [] = some ([.fin], lbEnd key, [tB (decide ((key.length : Int) > 100)) false, 0 + key.length ≤ (key ++ []).length ∧ key.length ≤ cap, (cutI (key ++ []) 0 key.length).length ≠ 32, tB ((key.length : Int) != 32) true]) := by kernel_rfl
omit [GT] in
def lbK (kb : Nat → Int) : List Int := cutI (keyL 32 kb ++ []) 0 32
omit [GT] in
def lbW (kb : Nat → Int) : List Int := cutI (keyL 240 (ksN (g2 (lbK kb)) 52) ++ []) 0 240
theorem lb_good (kb bf : Nat → Int) (cap : Nat) : runF tyT (lbO eNew) (atH 7 16 (isB true) noH) [] 1 [] [4] fLB (lbA 32 cap bf) (lbHp (keyL 32 kb)) 1 [] = some ([.fin], lbEnd (keyL 32 kb), [32 ≤ cap ∧ ∀ j, j < 32 → inR (g2 (keyL 32 kb) (0 + j)), sbox = sbox, 0 + 32 ≤ 32 ∧ 32 ≤ cap, (lbK kb).length = 32 ∧ sbox = sbox ∧ ∀ j, inR (g2 (lbK kb) j), 0 + 240 ≤ 240, (lbW kb).length = 240 ∧ sbox = sbox ∧ (keyL 16 bf).length = 16 ∧ (∀ j, inR (g2 (lbW kb) j)) ∧ ∀ j, inR (g2 (keyL 16 bf) j), tB (encL (keyL 240 (schedW (keyL 32 kb) 0)) (keyL 16 bf) == refBl (lbW kb) (keyL 16 bf)) true]) := by kernel_rfl
/-! ### the law -/
theorem lb_same {key b : List Int} (hl : key.length = 32) (hb : b.length = 16) (rk : ∀ j, inR (g2 key j)) (rb : ∀ j, inR (g2 b j)) : (encL (keyL 240 (schedW (keyL 32 (g2 key)) 0)) b == refBl (lbW (g2 key)) b) = true := by
  have e0 : keyL 32 (g2 key) = key := keyL_g2 hl
  have e1 : lbK (g2 key) = key := by unfold lbK; rw [e0, List.append_nil, ← hl, cutI_all]
  have e2 : lbW (g2 key) = keyL 240 (ksN (g2 key) 52) := by
    unfold lbW
    rw [e1, List.append_nil]
    have := cutI_all (keyL 240 (ksN (g2 key) 52))
    rw [keyL_len] at this
    exact this
  have hW : ∀ j, inR (g2 (lbW (g2 key)) j) := fun j => by
    rw [e2]
    exact g2_range (fun x hx => by
      unfold keyL at hx
      obtain ⟨i, _, rfl⟩ := List.mem_map.1 hx
      exact ksN_in rk 52 i) j
  rw [beq_iff_eq]
  refine (refBl_enc hW rb fun j hj => ?_).symm
  rw [e2, g2_keyL 240 _ j hj, g2_keyL 240 _ j hj, (ks_ws rk 52 (Nat.le_refl _)).1 j (by omega), e0]
  unfold schedW
  congr 2
  funext i
  rw [Nat.zero_add]
theorem lawBlocks_fact (a : Option Addr) (cap : Nat) (key b : List Int) {W : World} (hgw : GWok W.heap.size [] W) (hr : RowAt W ⟨a, cap⟩ .u8 key) (wk : ∀ z ∈ key, (Lit.int .u8 z).wf = true) (lb : b.length = 16) (wb : ∀ z ∈ b, (Lit.int .u8 z).wf = true) : Calls Try.prog 3 #[.slice a key.length cap, .agg (b.map (Value.int .u8)).toArray] W fun e w' => e = .returned (.bool true) ∧ Below W.heap.size W w' := by
  have hG := hr_rows [(⟨a, cap⟩, .u8, key)] (fun x hx => by simp at hx; subst hx; exact hr) hgw
  have hcap : key.length ≤ cap := hr.1
  have key1 : ∀ {todo : List AI} {st : St}, From Try.prog fLB (lbA key.length cap (g2 b)) (lbHp key) 1 [] todo st → (todo = [] ∨ todo = [.fin]) → resVal tyT st fLB.results.toList = some (ofV (.bool true)) → Calls Try.prog 3 #[.slice a key.length cap, .agg (b.map (Value.int .u8)).toArray] W fun e w' => e = .returned (.bool true) ∧ Below W.heap.size W w' := fun hR hfin hv => by
    have := law_reach Try.func3 hR hfin hv (by kernel_rfl) (by kernel_rfl) hG
    simp only [lbA, List.map_cons, List.map_nil, conc_s0, keyL_g2 lb] at this
    exact this
  by_cases h100 : (key.length : Int) > 100
  · exact key1 (From.run tyT_ok (lbO_ok newbad_ent) mixed_ (lb_long key cap (g2 b)) ⟨tB_gt.2 h100, trivial⟩) (.inr rfl) (by kernel_rfl)
  · by_cases h32 : key.length = 32
    · refine key1 (st := lbEnd key) ?_ (.inr rfl) (by kernel_rfl)
      have e0 : keyL 32 (g2 key) = key := keyL_g2 h32
      have rk := wf_g2 wk
      have rb := wf_g2 wb
      have hrun := lb_good (g2 key) (g2 b) cap
      have e1 : lbK (g2 key) = key := by unfold lbK; rw [e0, List.append_nil, ← h32, cutI_all]
      have hWl : (lbW (g2 key)).length = 240 := by
        unfold lbW
        rw [cutI_eq, List.append_nil]
        simp [keyL_len]
      have hW : ∀ j, inR (g2 (lbW (g2 key)) j) := fun j => by
        refine g2_range (fun x hx => ?_) j
        unfold lbW at hx
        rw [cutI_eq, List.append_nil] at hx
        have hx := List.mem_of_mem_drop (List.mem_of_mem_take hx)
        unfold keyL at hx
        obtain ⟨i, _, rfl⟩ := List.mem_map.1 hx
        rw [e1]
        exact ksN_in rk 52 i
      have := From.run tyT_ok (lbO_ok new_ent) mixed_ hrun ⟨⟨by omega, fun j hj => by rw [e0]; exact rk _⟩, rfl, ⟨by omega, by omega⟩, ⟨by rw [e1]; exact h32, rfl, by rw [e1]; exact rk⟩, Nat.le_refl _, ⟨hWl, rfl, by rw [keyL_g2 lb]; exact lb, hW, by rw [keyL_g2 lb]; exact rb⟩, by rw [keyL_g2 lb]; exact tB_iff.2 (lb_same h32 lb rk rb), trivial⟩
      rw [e0] at this
      rw [h32]
      exact this
    · refine key1 (From.run tyT_ok (lbO_ok newbad_ent) mixed_ (lb_bad key cap (g2 b)) ⟨tB_ngt.2 (by omega), ⟨by simp, hcap⟩, ?_, tB_ne.2 (by omega), trivial⟩) (.inr rfl) (by kernel_rfl)
      rw [List.append_nil, cutI_all]
      exact h32
end Go.Proofs.Ytkoackalpcmhaaa.Am
/- The reference's Turn. Conditions: none. -/
namespace Go.Proofs.Ytkoackalpcmhaaa.Am
set_option linter.unusedVariables false
set_option linter.unusedSimpArgs false
open Go Go.RowKit
set_option linter.unusedSectionVars false
variable [GT]
noncomputable abbrev fRT : Func := Try.f20
noncomputable def rtO : List (Nat × Ent) := [(12, eBoxes), (15, entC [.sl .u8, .ag .i64] eKeysF), (14, entC [.sl .i64, .ag .i64, .ag .u8] eRBF), (17, e16 rnextL)]
theorem rtO_ok : OOK Try.prog rtO := ook_of (l := [(12, eBoxes), (15, entC [.sl .u8, .ag .i64] eKeysF), (14, entC [.sl .i64, .ag .i64, .ag .u8] eRBF), (17, e16 rnextL)]) ⟨boxes_ent, keys_ent, rblock_ent, rnext_ent, trivial⟩
def rtB (kf ff : Nat → Int) (b : List Int) : List CB := [.sl .u8 (keyL 32 kf), .ag .u8 (keyL 16 ff), .sl .u8 b]
def rtW (kf : Nat → Int) : List Int := keyL 240 (ksN (g2 (keyL 32 kf)) 52)
def rtQ (kf ff : Nat → Int) (b : List Int) : St := { tm := tmL 45 [(2, .av (.one (.r 0 0 b.length 0))), (4, .av (.one (.p 1 0))), (7, .av (.one (.p 2 0))), (8, .av (.one (.r 3 0 240 0))), (9, ofV (Value.slice none 0 0)), (10, .av (.one (.p 4 0))), (18, ofV (.int .i64 (b.length : Nat))), (19, ofV (.int .i64 0))], hp := [(0, ⟨2, 0, [.arr .u8 b]⟩), (1, ⟨0, 23, [.arr .u8 (keyL 16 ff)]⟩), (2, ⟨0, 29, [.arr .i64 sbox]⟩), (3, ⟨1, 3, [.arr .i64 (rtW kf)]⟩), (4, ⟨0, 23, [.arr .u8 (keyL 16 fun _ => 0)]⟩)], nx := 5, gl := [] }
def rtS (b w x f o : List Int) (L i : Nat) : St := { tm := tmL 45 [(2, .av (.one (.r 0 0 b.length 0))), (4, .av (.one (.p 1 0))), (7, .av (.one (.p 2 0))), (8, .av (.one (.r 3 0 240 0))), (9, .av (.one (.r 5 0 L 0))), (10, .av (.one (.p 4 0))), (18, ofV (.int .i64 (b.length : Nat))), (19, ofV (.int .i64 (i : Nat)))], hp := [(0, ⟨2, 0, [.arr .u8 b]⟩), (1, ⟨0, 23, [.arr .u8 f]⟩), (2, ⟨0, 29, [.arr .i64 sbox]⟩), (3, ⟨1, 3, [.arr .i64 w]⟩), (4, ⟨0, 23, [.arr .u8 x]⟩), (5, ⟨1, 5, [.arr .u8 o]⟩)], nx := 6, gl := [] }
def rtE (o : List Int) (L : Nat) : St := { tm := tmL 45 [(6, .av (.one (.r 0 0 L 0)))], hp := [(0, ⟨1, 5, [.arr .u8 o]⟩)], nx := 1, gl := [] }
def rtH (z : Bool) (i : Nat) : Nat → Nat → Hint := atH 6 0 (isB true) (atH 8 2 (isB z) (atH 11 3 symH (atH 11 4 symH (atH 11 6 (isI .i64 ((i % 16 : Nat) : Int)) (atH 11 7 symH (atH 11 8 symH (atH 11 11 symH (atH 12 0 (isI .i64 ((i + 1 : Nat) : Int)) noH))))))))
theorem rt_start (kf ff : Nat → Int) (b : List Int) : runF tyT rtO noH [] 0 [1, 2, 3, 4, 5] [2, 4, 7, 8, 9, 10, 18, 19] fRT (bA (rtB kf ff b) 0 0) (bH (rtB kf ff b) 0 0) 2 [] = some (toAt fRT 6 [], rtQ kf ff b, [0 + 32 ≤ (keyL 32 kf ++ []).length, (cutI (keyL 32 kf ++ []) 0 32).length = 32 ∧ sbox = sbox ∧ ∀ j, inR (g2 (cutI (keyL 32 kf ++ []) 0 32) j)]) := by kernel_rfl
def rtA (b o : List Int) (L i : Nat) : List Prop := [0 + b.length ≤ widths [Seg.arr .u8 b], 0 ≤ (i : Int) ∧ i ≤ b.length - 1, 1 ≤ b.length, i < b.length, tI .i64 (Int.tmod (i : Int) 16) ((i % 16 : Nat) : Int), 0 ≤ ((i % 16 : Nat) : Int) ∧ i % 16 ≤ 16 - 1, i % 16 < 16, L = widths [Seg.arr .u8 o], 1 ≤ 1, (widths [Seg.arr .u8 o] + 1) * 2 ≤ 140737488355328, tI .i64 (IntKind.wrap .i64 ((i : Int) + 1)) ((i + 1 : Nat) : Int)]
theorem rt_goN (b w o : List Int) (xf ff : Nat → Int) (L i k : Nat) : runN tyT rtO (rtH false i) [] 2000 0 [0, 1, 2, 3, 4, 50] [2, 4, 7, 8, 9, 10, 18, 19] (inAt fRT 6 [] k) (rtS b w (keyL 16 xf) (keyL 16 ff) o L i) = some (hdAt fRT 6 [] k, rtS b w (keyL 16 xf) (keyL 16 ff) (o ++ [ixor .u8 (b.getD i 0) ((keyL 16 xf).getD (i % 16) 0)]) (widths [Seg.arr .u8 o] + 1) (i + 1), tB (decide ((i : Int) < (b.length : Int))) true :: tB (Int.tmod (i : Int) 16 == 0) false :: rtA b o L i) := by kernel_rfl
theorem rt_goY (b w o : List Int) (xf ff : Nat → Int) (L i k : Nat) : runN tyT rtO (rtH true i) [] 2000 0 [0, 1, 2, 3, 4, 50] [2, 4, 7, 8, 9, 10, 18, 19] (inAt fRT 6 [] k) (rtS b w (keyL 16 xf) (keyL 16 ff) o L i) = some (hdAt fRT 6 [] k, rtS b w (refBl (cutI (w ++ []) 0 240) (keyL 16 ff)) (rnextL (keyL 16 ff)) (o ++ [ixor .u8 (b.getD i 0) ((refBl (cutI (w ++ []) 0 240) (keyL 16 ff)).getD (i % 16) 0)]) (widths [Seg.arr .u8 o] + 1) (i + 1), tB (decide ((i : Int) < (b.length : Int))) true :: tB (Int.tmod (i : Int) 16 == 0) true :: (0 + 240 ≤ (w ++ []).length) :: ((cutI (w ++ []) 0 240).length = 240 ∧ sbox = sbox ∧ (keyL 16 ff).length = 16 ∧ (∀ j, inR (g2 (cutI (w ++ []) 0 240) j)) ∧ ∀ j, inR (g2 (keyL 16 ff) j)) :: rtA b o L i) := by kernel_rfl
theorem rt_end (b w o : List Int) (xf ff : Nat → Int) (L i k : Nat) : runN tyT rtO (atH 6 0 (isB false) noH) [] 2000 0 [5] [6] (inAt fRT 6 [] k) (rtS b w (keyL 16 xf) (keyL 16 ff) o L i) = some ([.fin], rtE o L, [tB (decide ((i : Int) < (b.length : Int))) false]) := by kernel_rfl
end Go.Proofs.Ytkoackalpcmhaaa.Am
/- The reference's Turn: the contract. Conditions: none. -/
namespace Go.Proofs.Ytkoackalpcmhaaa.Am
set_option linter.unusedVariables false
set_option linter.unusedSimpArgs false
open Go Go.RowKit
set_option linter.unusedSectionVars false
variable [GT]
def itF : Nat → List Int → List Int
  | 0, b => b
  | n + 1, b => itF n (nextL b)
theorem itF_next : ∀ (n : Nat) (b : List Int), itF n (nextL b) = nextL (itF n b)
  | 0, _ => rfl
  | n + 1, b => itF_next n (nextL b)
theorem itF_len {b : List Int} (h : b.length = 16) : ∀ n, (itF n b).length = 16
  | 0 => h
  | n + 1 => by rw [itF, itF_next]; exact keyL_len _ _
theorem inc_in (z : Int) : inR (inc z) := by
  unfold inc inR
  rw [u8_eq]
  omega
theorem nextG_in : ∀ (n i : Nat) (bf : Nat → Int), (∀ j, inR (bf j)) → ∀ j, inR (nextG n i bf j)
  | 0, _, _, h, j => h j
  | n + 1, i, bf, h, j => by
    have h2 : ∀ j, inR (incAt bf i j) := fun j => by
      unfold incAt
      split
      · exact inc_in _
      · exact h j
    unfold nextG
    split
    · exact h2 j
    · exact nextG_in n (i + 1) _ h2 j
theorem nextL_in {b : List Int} (h : ∀ j, inR (g2 b j)) (j : Nat) : inR (g2 (nextL b) j) := by
  refine g2_range (fun x hx => ?_) j
  unfold nextL keyL at hx
  obtain ⟨i, _, rfl⟩ := List.mem_map.1 hx
  exact nextG_in 16 0 _ h i
theorem itF_in {b : List Int} (h : ∀ j, inR (g2 b j)) : ∀ n j, inR (g2 (itF n b) j)
  | 0 => h
  | n + 1 => fun j => by rw [itF, itF_next]; exact nextL_in (itF_in h n) j
theorem strm_get (ks : List Int) : ∀ (n : Nat) (b : List Int) (q r : Nat), q < n → r < 16 → (strm ks n b).getD (16 * q + r) 0 = (encL ks (itF q b)).getD r 0
  | 0, _, _, _, h, _ => by omega
  | n + 1, b, 0, r, _, hr => by
    unfold strm
    rw [List.getD_eq_getElem?_getD, List.getD_eq_getElem?_getD, List.getElem?_append_left (by rw [encL_len]; omega), Nat.mul_zero, Nat.zero_add]
    rfl
  | n + 1, b, q + 1, r, h, hr => by
    have ih := strm_get ks n (nextL b) q r (by omega) hr
    unfold strm
    rw [List.getD_eq_getElem?_getD, List.getElem?_append_right (by rw [encL_len]; omega), encL_len, show 16 * (q + 1) + r - 16 = 16 * q + r by omega, ← List.getD_eq_getElem?_getD, ih]
    rfl
def rtOut (b ks f : List Int) (i : Nat) : List Int := (List.range i).map fun j => ixor .u8 (b.getD j 0) ((encL ks (itF (j / 16) f)).getD (j % 16) 0)
theorem rtOut_len (b ks f : List Int) (i : Nat) : (rtOut b ks f i).length = i := by simp [rtOut]
theorem rtOut_succ (b ks f : List Int) (i : Nat) : rtOut b ks f (i + 1) = rtOut b ks f i ++ [ixor .u8 (b.getD i 0) ((encL ks (itF (i / 16) f)).getD (i % 16) 0)] := by
  unfold rtOut
  rw [List.range_succ, List.map_append]
  rfl
theorem rtOut_all (b ks f : List Int) : rtOut b ks f b.length = tuR ks f b := by
  unfold rtOut tuR turnL
  refine List.map_congr_left fun j hj => ?_
  have hj := List.mem_range.1 hj
  have := strm_get ks ((b.length + 15) / 16) f (j / 16) (j % 16) (by omega) (Nat.mod_lt _ (by decide))
  rw [show 16 * (j / 16) + j % 16 = j by omega] at this
  rw [this]
theorem rt_asm (b ks f : List Int) (i : Nat) (h : i < b.length) (h3 : b.length ≤ 1000000) : AllP (rtA b (rtOut b ks f i) i i) := by
  unfold rtA
  simp only [allP_cons, allP_nil, and_true, widths_o, rtOut_len, tI_iff, true_and]
  have := w64 (z := (i : Int) + 1) (by omega) (by omega)
  have e := Int.tmod_eq_emod_of_nonneg (a := (i : Int)) (b := 16) (by omega)
  omega
theorem rt_rounds (b w ks f : List Int) (hw : w.length = 240) (hwi : ∀ j, inR (g2 w j)) (hks : ∀ j, j < 240 → g2 w j = g2 ks j) (hf : f.length = 16) (hfi : ∀ j, inR (g2 f j)) (h3 : b.length ≤ 1000000) : ∀ (k i : Nat) (x : List Int), i + k = b.length → x.length = 16 → (i % 16 ≠ 0 → x = encL ks (itF (i / 16) f)) → Reaches Try.prog 0 (hdAt fRT 6 [] (k + 1)) (rtS b w x (itF ((i + 15) / 16) f) (rtOut b ks f i) i i) [.fin] (rtE (tuR ks f b) b.length)
  | 0, i, x, h, hx, _ => by
    have hF := itF_len hf ((i + 15) / 16)
    have hi : i = b.length := by omega
    subst hi
    rw [← keyL_g2 hx, ← keyL_g2 hF]
    refine Reaches.one (Reaches.run tyT_ok rtO_ok mixed_ (by rw [rt_end, rtOut_all]) ?_)
    simp only [allP_cons, allP_nil, and_true, tB_nlt]
    omega
  | k + 1, i, x, h, hx, hxe => by
    have hF := itF_len hf ((i + 15) / 16)
    have hFi := itF_in hfi ((i + 15) / 16)
    by_cases h0 : i % 16 = 0
    · have ih := rt_rounds b w ks f hw hwi hks hf hfi h3 k (i + 1) (encL ks (itF (i / 16) f)) (by omega) (encL_len _ _) (fun _ => by rw [show (i + 1) / 16 = i / 16 by omega])
      have hw0 : cutI (w ++ []) 0 240 = w := by
        have := cutI_all w
        rw [hw] at this
        rw [List.append_nil, this]
      have hrun := rt_goY b w (rtOut b ks f i) (g2 x) (g2 (itF ((i + 15) / 16) f)) i i (k + 1)
      rw [keyL_g2 hx, keyL_g2 hF, hw0, ← next_eq hFi, refBl_enc hwi hFi hks, ← itF_next, show itF ((i + 15) / 16) (nextL f) = itF ((i + 1 + 15) / 16) f from by rw [show (i + 1 + 15) / 16 = (i + 15) / 16 + 1 by omega]; rfl, show (i + 15) / 16 = i / 16 by omega, ← rtOut_succ] at hrun
      rw [show (i + 15) / 16 = i / 16 by omega]
      refine (Reaches.one (Reaches.run tyT_ok rtO_ok mixed_ hrun ?_)).trans ?_
      · refine ⟨tB_lt.2 (by omega), ?_, ?_, ⟨hw, rfl, itF_len hf _, hwi, itF_in hfi _⟩, rt_asm b ks f i (by omega) h3⟩
        · rw [tB_eq, Int.tmod_eq_emod_of_nonneg (by omega)]; omega
        · rw [List.append_nil, hw]; omega
      · rw [widths_o, rtOut_len]
        exact ih
    · have ih := rt_rounds b w ks f hw hwi hks hf hfi h3 k (i + 1) x (by omega) hx (fun h1 => by rw [hxe h0, show (i + 1) / 16 = i / 16 by omega])
      have hrun := rt_goN b w (rtOut b ks f i) (g2 x) (g2 (itF ((i + 15) / 16) f)) i i (k + 1)
      rw [keyL_g2 hx, keyL_g2 hF, show rtOut b ks f i ++ [ixor .u8 (b.getD i 0) (x.getD (i % 16) 0)] = rtOut b ks f (i + 1) from by rw [rtOut_succ, ← hxe h0]] at hrun
      refine (Reaches.one (Reaches.run tyT_ok rtO_ok mixed_ hrun ?_)).trans ?_
      · refine ⟨tB_lt.2 (by omega), ?_, rt_asm b ks f i (by omega) h3⟩
        rw [tB_neq, Int.tmod_eq_emod_of_nonneg (by omega)]; omega
      · rw [widths_o, rtOut_len, show (i + 15) / 16 = (i + 1 + 15) / 16 by omega]
        exact ih
/-- Bytes together with the stream. -/
def rtF : List CB → Option BR
  | [.sl .u8 key, .ag .u8 f, .sl .u8 b] => some { pre := key.length = 32 ∧ f.length = 16 ∧ (∀ j, inR (g2 key j)) ∧ (∀ j, inR (g2 f j)) ∧ b.length ≤ 1000000, val := .av (.one (.r 0 0 b.length 0)), new := [⟨1, 5, [.arr .u8 (tuR (lsK (g2 key)) f b)]⟩] }
  | _ => none
theorem rt_ends (cbs : List CB) (r : BR) (hF : rtF cbs = some r) (hp : r.pre) : EndsB Try.prog tyT [] fRT cbs r := by
  unfold rtF at hF
  split at hF
  · rename_i key f b
    injection hF with hF
    subst hF
    obtain ⟨hk, hf, hki, hfi, hb⟩ : key.length = 32 ∧ f.length = 16 ∧ (∀ j, inR (g2 key j)) ∧ (∀ j, inR (g2 f j)) ∧ b.length ≤ 1000000 := hp
    have ek := keyL_g2 hk
    have hc : cutI (keyL 32 (g2 key) ++ []) 0 32 = key := by
      have := cutI_all key
      rw [hk] at this
      rw [List.append_nil, ek, this]
    have hr := FromK.run (m0 := 0) tyT_ok rtO_ok mixed_ (rt_start (g2 key) (g2 f) b) ⟨by rw [List.append_nil, ek, hk]; omega, by rw [hc]; exact ⟨hk, rfl, hki⟩, trivial⟩
    unfold rtB at hr
    rw [ek, keyL_g2 hf] at hr
    have hW : rtW (g2 key) = keyL 240 (ksN (g2 key) 52) := by unfold rtW; rw [ek]
    have hwi : ∀ j, inR (g2 (rtW (g2 key)) j) := fun j => by
      rw [hW]
      exact g2_range (fun x hx => by
        unfold keyL at hx
        obtain ⟨i, _, rfl⟩ := List.mem_map.1 hx
        exact ksN_in hki 52 i) j
    have hrd := rt_rounds b (rtW (g2 key)) (lsK (g2 key)) f (keyL_len _ _) hwi (fun j hj => by
      rw [hW, g2_keyL 240 _ j hj]
      unfold lsK
      rw [g2_keyL 240 _ j hj, (ks_ws hki 52 (Nat.le_refl _)).1 j (by omega), ek]
      unfold schedW
      congr 2
      funext i
      rw [Nat.zero_add]) hf hfi hb b.length 0 (keyL 16 fun _ => 0) (by omega) (keyL_len _ _) (fun h => absurd rfl h)
    have had : Reaches Try.prog 0 (toAt fRT 6 []) (rtQ (g2 key) (g2 f) b) (toAt fRT 6 []) (rtS b (rtW (g2 key)) (keyL 16 fun _ => 0) (keyL 16 (g2 f)) [] 0 0) := Reaches.adoptK (m := 0) (es := [0, 1, 2, 3, 4, 5]) (ks := [2, 4, 7, 8, 9, 10, 18, 19]) 5 .u8 (t := 9) (by kernel_rfl) (by kernel_rfl)
    rw [keyL_g2 hf] at had
    exact ⟨[.fin], rtE (tuR (lsK (g2 key)) f b) b.length, .av (.one (.r 0 0 b.length 0)), [0], .inr rfl, hr.trans (had.trans (Reaches.rounds (b.length + 1) hrd)), by kernel_rfl, by kernel_rfl, by kernel_rfl⟩
  · cases hF
theorem rturn_ent (sh : List ShB) (hs : sh.length = 3 := by rfl) : EntOK Try.prog 20 (entB sh rtF) :=
  ok_B tyT_ok Try.func20 (by kernel_rfl) (by kernel_rfl) [] (fun x hx => by cases hx) (by rw [hs]; kernel_rfl) rt_ends
end Go.Proofs.Ytkoackalpcmhaaa.Am
/- The cipher's New of a row. Conditions: none. -/
namespace Go.Proofs.Ytkoackalpcmhaaa.Am
set_option linter.unusedVariables false
set_option linter.unusedSimpArgs false
open Go Go.RowKit
set_option linter.unusedSectionVars false
variable [GT]
/-- New of a slice that is a row's beginning. -/
def eNewR : Ent := fun args G base => match args with
  | [.av (.one (.r id 0 n ad))] => match G id with
    | some b => match Nat.ble 1 b.k && Nat.ble 1 n with
      | true => eNew [.av (.one (.s id 0 n n))] G base
      | false => none
    | none => none
  | _ => none
theorem newr_ent : EntOK Try.prog 11 eNewR := by
  refine ⟨new_ent.1, fun args G base res hr ha ρ D N M w hG hin hfr => ?_⟩
  unfold eNewR at hr
  split at hr
  · rename_i id n ad
    split at hr
    · rename_i b hb
      split at hr
      · rename_i hk
        rw [Bool.and_eq_true] at hk
        have hk1 := Nat.le_of_ble_eq_true hk.1
        have hn1 := Nat.le_of_ble_eq_true hk.2
        have hro := (hG.blk id b hb).2.2.ro (.inr hk1)
        unfold eNew at hr
        simp only [hb] at hr
        split at hr
        · rename_i zs hz
          split at hr
          · rename_i hl
            rw [Bool.and_eq_true] at hl
            have h32 := Nat.eq_of_beq_eq_true hl.1
            have hle := Nat.le_of_ble_eq_true hl.2
            subst h32
            simp only [Option.some.injEq] at hr
            subst hr
            obtain ⟨_, ha2⟩ : 32 ≤ 32 ∧ ∀ j, j < 32 → inR (g2 zs (0 + j)) := ha
            have hcap : zs.length ≤ (ρ id).cap := by
              have := hro.1
              rw [intsOf_spec ρ _ _ hz, List.length_map] at this
              exact this
            have hin' : ∀ s ∈ [SV.av (.one (.s id 0 32 (ρ id).cap))], s.In D := fun s hs => by
              simp only [List.mem_cons, List.not_mem_nil, or_false] at hs
              subst hs
              intro s hs
              simp only [AV.segs, List.mem_cons, List.not_mem_nil, or_false] at hs
              subst hs
              exact (hG.blk id b hb).1
            have heq : eNew [.av (.one (.s id 0 32 (ρ id).cap))] G base = some { val := .tup [.one (.p (base + 1) 0), .one (.v (.int .i64 0))], new := [⟨0, 66, [.arr .u8 sbox]⟩, ⟨0, 53, .p (base + 0) 0 :: pieces (schedW zs 0) 60⟩], asm := .say (32 ≤ (ρ id).cap ∧ ∀ j, j < 32 → inR (g2 zs (0 + j))) } := by
              have hl' : (Nat.beq 32 32 && Nat.ble (0 + 32) zs.length) = true := by rw [Bool.and_eq_true]; exact hl
              unfold eNew
              simp only [hb, hz, hl']
            have := new_ent.2 [.av (.one (.s id 0 32 (ρ id).cap))] G base _ heq ⟨by omega, ha2⟩ ρ D N M w hG hin' hfr
            have e : [SV.av (.one (.s id 0 32 (ρ id).cap))].map (SV.conc ρ) = [SV.av (.one (.r id 0 32 ad))].map (SV.conc ρ) := by
              simp only [List.map_cons, List.map_nil, SV.conc, AV.conc, Seg.conc, radr, Nat.sub_zero]
              rw [if_neg (by omega)]
            rw [e] at this
            exact this.mono fun e w' ⟨v, h1, ρ', hF⟩ => ⟨v, h1, ρ', ⟨hF.agree, hF.val, hF.hr, hF.kept, hF.fresh⟩⟩
          · cases hr
        · cases hr
      · cases hr
    · cases hr
  · cases hr
end Go.Proofs.Ytkoackalpcmhaaa.Am
/- Law 05's Turns. Conditions: none. -/
namespace Go.Proofs.Ytkoackalpcmhaaa.Am
set_option linter.unusedVariables false
set_option linter.unusedSimpArgs false
open Go Go.RowKit
set_option linter.unusedSectionVars false
variable [GT]
noncomputable abbrev fLT : Func := Try.f8
noncomputable def eTu : Ent := eOr (entB [.rd [.pi .u8, .ag .u8 240], .ag .u8, .rs [.sw .u8]] tuF) (entB [.rd [.pi .u8, .ag .u8 240], .ag .u8, .rs [.sw .u8, .sw .u8]] tuF)
noncomputable def ltO : List (Nat × Ent) := [(10, eTrue), (11, eNewR), (19, eTu), (20, entB [.sw .u8, .ag .u8, .sw .u8] rtF)]
theorem ltO_ok : OOK Try.prog ltO := ook_of (l := [(10, eTrue), (11, eNewR), (19, eTu), (20, entB [.sw .u8, .ag .u8, .sw .u8] rtF)]) ⟨awake_ent, newr_ent, eOr_ok (Turn_ent _) (Turn_ent _), rturn_ent _, trivial⟩
def ltA (kf bf : Nat → Int) (n m capa capb : Nat) : List SV := [.av (.one (.arr .u8 (keyL 32 kf))), .av (.one (.arr .u8 (keyL 16 bf))), .av (.agg [.s 0 0 n capa, .s 1 0 m capb])]
def ltP (a b : List Int) : List (Nat × Blk) := [(0, ⟨2, 0, [.arr .u8 a]⟩), (1, ⟨2, 0, [.arr .u8 b]⟩)]
def ltE (a b : List Int) : St := { tm := tmL 85 [(6, ofV (.bool true))], hp := ltP a b, nx := 2, gl := [] }
def ltH : Nat → Nat → Hint := atH 1 8 (isB false) (atH 1 13 (isB false) (atH 12 3 symH (atH 12 6 symH (atH 14 1 symH (atH 14 6 symH (atH 14 7 (isB true) (atH 14 14 symH (atH 14 16 symH (atH 14 17 (isB true) noH)))))))))
theorem lt_long1 (kf bf : Nat → Int) (a b : List Int) (capa capb : Nat) : runF tyT ltO (atH 1 8 (isB true) noH) [(8, 33)] 2 [] [6] fLT (ltA kf bf a.length b.length capa capb) (ltP a b) 2 [] = some ([.fin], ltE a b, [tB (decide ((a.length : Int) > 100)) true]) := by kernel_rfl
theorem lt_long2 (kf bf : Nat → Int) (a b : List Int) (capa capb : Nat) : runF tyT ltO (atH 1 8 (isB false) (atH 1 13 (isB true) noH)) [(8, 33)] 2 [] [6] fLT (ltA kf bf a.length b.length capa capb) (ltP a b) 2 [] = some ([.fin], ltE a b, [tB (decide ((a.length : Int) > 100)) false, tB (decide ((b.length : Int) > 100)) true]) := by kernel_rfl
def ltX (kf bf : Nat → Int) (o : List Int) : List Int := tuR (lsK kf) (keyL 16 bf) o
def ltY (kf bf : Nat → Int) (o : List Int) : List Int := tuR (lsK (g2 (keyL 32 kf))) (keyL 16 bf) o
def ltC (a b : List Int) : List Int := a.take a.length ++ b.take b.length
theorem lt_run (kf bf : Nat → Int) (a b : List Int) (capa capb : Nat) : runF tyT ltO ltH [(8, 33)] 2 [] [6] fLT (ltA kf bf a.length b.length capa capb) (ltP a b) 2 [] = some ([.fin], ltE a b,
  [tB (decide ((a.length : Int) > 100)) false, tB (decide ((b.length : Int) > 100)) false, 32 ≤ 32 ∧ ∀ j, j < 32 → inR (g2 (keyL 32 kf) (0 + j)), 0 = 0 ∧ 0 = 0, 0 + a.length ≤ widths [Seg.arr .u8 a], (0 + a.length) * 2 ≤ 140737488355328, 0 + a.length = widths [Seg.arr .u8 (a.take a.length)], 0 + b.length ≤ widths [Seg.arr .u8 b], (widths [Seg.arr .u8 (a.take a.length)] + b.length) * 2 ≤ 140737488355328,
   a.length = a.length ∧ a.length ≤ capa, b.length = b.length ∧ b.length ≤ capb, sbox = sbox ∧ (lsK kf).length = 240 ∧ (keyL 16 bf).length = 16 ∧ a.length + b.length ≤ 1000000,
   0 + (a.length + b.length) ≤ widths [Seg.arr .u8 (ltX kf bf (a ++ b))], 32 = 32 ∧ 32 ≤ 32, widths [Seg.arr .u8 (a.take a.length)] + b.length = (ltC a b).length,
   (keyL 32 kf).length = 32 ∧ (keyL 16 bf).length = 16 ∧ (∀ j, inR (g2 (keyL 32 kf) j)) ∧ (∀ j, inR (g2 (keyL 16 bf) j)) ∧ (ltC a b).length ≤ 1000000,
   0 + (ltC a b).length ≤ widths [Seg.arr .u8 (ltY kf bf (ltC a b))], tB ((strOf ((ltX kf bf (a ++ b)).take (a.length + b.length) ++ [])).toList == (strOf ((ltY kf bf (ltC a b)).take (ltC a b).length ++ [])).toList) true,
   a.length + b.length = (ltX kf bf (a ++ b)).length, sbox = sbox ∧ (lsK kf).length = 240 ∧ (keyL 16 bf).length = 16 ∧ (ltX kf bf (a ++ b)).length ≤ 1000000, 0 + (ltX kf bf (a ++ b)).length ≤ widths [Seg.arr .u8 (ltX kf bf (ltX kf bf (a ++ b)))],
   0 + (widths [Seg.arr .u8 (a.take a.length)] + b.length) ≤ widths [Seg.arr .u8 (ltC a b)],
   tB ((strOf ((ltX kf bf (ltX kf bf (a ++ b))).take (ltX kf bf (a ++ b)).length ++ [])).toList == (strOf ((ltC a b).take (widths [Seg.arr .u8 (a.take a.length)] + b.length) ++ [])).toList) true]) := by kernel_rfl
end Go.Proofs.Ytkoackalpcmhaaa.Am
/- Opening arrays of two slices of integers at a law's call. Conditions: none. -/
namespace Go.Proofs.Ytkoackalpcmhaaa
set_option linter.unusedVariables false
set_option linter.unusedSimpArgs false
open Go Go.ChangeShapes Go.WideShapes Go.ChangeAt Go.RowKit

/-- A slice of integers, by its cell. -/
theorem open_slc {H : Type} {enc : TypeId × Value → H} {W : World} {base b0 : Nat} {spare : Nat → Bool} {held : Bool} {v : Value} {x : DataW H × List MemPlace} {fuel : Nat} {t e : TypeId} {k : IntKind}
    (ht : Try.prog.underlying t = some (.slice e)) (he : Try.prog.underlying e = some (.int k)) (hce : Try.prog.cellsOf e = 1)
    (hval : Cell.okWide Try.prog W .any b0 t v) (hf : DataW.trod enc Try.prog W base spare held fuel t [v] = some x) :
    ∃ a cap, ∃ zs : List Int, v = .slice a zs.length cap ∧ Am.RowAt W ⟨a, cap⟩ k zs ∧ ∀ z ∈ zs, (Lit.int k z).wf = true := by
  rcases open_ints ht he hce hf with ⟨hcs, _⟩ | ⟨x, l, c, zs, hcs, _, hl, hm, hz, _, hcell, hwz⟩
  · simp at hcs
    subst hcs
    exact ⟨none, 0, [], rfl, ⟨Nat.le_refl _, .inl rfl, fun x hx => by cases hx⟩, by simp⟩
  · simp at hcs
    subst hcs
    have hlt : ∀ y, some x = some y → y.block < W.heap.size := fun y hy => by
      injection hy with hy
      subst hy
      simp only [Cell.okWide, ht, Cell.ok] at hval
      exact has_lt hval.2.2
    have hzl : l ≤ zs.length := by rw [hz]; split <;> omega
    have hlen : (zs.take l).length = l := by rw [List.length_take]; omega
    refine ⟨some x, c, zs.take l, by rw [hlen], ⟨by rw [hlen]; exact hl, .inr ⟨x, rfl, fun j u hj => ?_⟩, hlt⟩, fun z hz' => hwz z (List.mem_of_mem_take hz')⟩
    have hjl : j < l := by
      have := (List.getElem?_eq_some_iff.1 hj).1
      rw [List.length_map, hlen] at this; exact this
    rw [List.getElem?_map, List.getElem?_take, if_pos hjl, List.getElem?_eq_getElem (by omega)] at hj
    simp only [Option.map_some, Option.some.injEq] at hj
    subst hj
    have := hcell j (by omega)
    simpa [List.getD_eq_getElem?_getD, List.getElem?_eq_getElem (show j < zs.length by omega)] using this
/-- An array of two slices of integers that comes in. -/
theorem open_sl2 {H : Type} {enc : TypeId × Value → H} {W : World} {base b0 : Nat} {spare : Nat → Bool} {held : Bool} {v : Value} {d : DataW H} {ps : List MemPlace} {t s e : TypeId} {k : IntKind}
    (ht : Try.prog.underlying t = some (.array 2 s)) (hs : Try.prog.underlying s = some (.slice e)) (he : Try.prog.underlying e = some (.int k)) (hcs : Try.prog.cellsOf s = 1) (hct : Try.prog.cellsOf t = 2) (hce : Try.prog.cellsOf e = 1) (hts : Try.prog.cellTypes Try.prog.depth t = some [s, s])
    (hval : Value.okWide Try.prog W .any b0 t v) (h : DataW.Trod enc Try.prog W base spare held t v d ps) :
    ∃ a cap, ∃ zs : List Int, ∃ a' cap', ∃ zs' : List Int, v = .agg #[.slice a zs.length cap, .slice a' zs'.length cap'] ∧ (Am.RowAt W ⟨a, cap⟩ k zs ∧ ∀ z ∈ zs, (Lit.int k z).wf = true) ∧ (Am.RowAt W ⟨a', cap'⟩ k zs' ∧ ∀ z ∈ zs', (Lit.int k z).wf = true) := by
  obtain ⟨cs, rfl, hsz, ts, hts', _, hrow⟩ : ∃ cs, v = .agg cs ∧ cs.size = Try.prog.cellsOf t ∧ Row.okWide Try.prog W .any b0 t cs := by
    simpa [Value.okWide, ht] using hval
  rw [hts] at hts'
  injection hts' with hts'
  subst hts'
  rw [hct] at hsz
  obtain ⟨fuel, hf⟩ := h
  obtain ⟨xs, m, _, _, hl, hxs, hel⟩ := DataW.trod_array ht hf
  obtain ⟨l⟩ := cs
  match l, hsz with
  | [u, w], _ =>
    have e0 := hel 0 (by omega)
    have e1 := hel 1 (by omega)
    rw [hcs] at e0 e1
    obtain ⟨t0, h0, o0⟩ := hrow 0 u rfl
    obtain ⟨t1, h1, o1⟩ := hrow 1 w rfl
    simp at h0 h1
    subst h0 h1
    have hx0 : xs[0]? = some xs[0] := List.getElem?_eq_getElem (by omega)
    have hx1 : xs[1]? = some xs[1] := List.getElem?_eq_getElem (by omega)
    rw [hx0] at e0
    rw [hx1] at e1
    obtain ⟨a, cap, zs, rfl, r0, w0⟩ := open_slc hs he hce o0 e0
    obtain ⟨a', cap', zs', rfl, r1, w1⟩ := open_slc hs he hce o1 e1
    exact ⟨a, cap, zs, a', cap', zs', rfl, ⟨r0, w0⟩, ⟨r1, w1⟩⟩
end Go.Proofs.Ytkoackalpcmhaaa
/- Law 05's Turns: the law. Conditions: none. -/
namespace Go.Proofs.Ytkoackalpcmhaaa.Am
set_option linter.unusedVariables false
set_option linter.unusedSimpArgs false
open Go Go.RowKit
set_option linter.unusedSectionVars false
variable [GT]
theorem ixor_in (a b : Int) : inR (ixor .u8 a b) := bx_range a b
theorem ixor_twice {z s : Int} (h : inR z) : ixor .u8 (ixor .u8 z s) s = z := by
  refine bv_inj (ixor_in _ _) h ?_
  show bv (bx (bx z s) s) = bv z
  rw [bv_bx, bv_bx, BitVec.xor_assoc, BitVec.xor_self, BitVec.xor_zero]
theorem tuR_len (ks b o : List Int) : (tuR ks b o).length = o.length := turnL_len _ _
theorem tuR_twice (ks b o : List Int) (h : ∀ z ∈ o, inR z) : tuR ks b (tuR ks b o) = o := by
  refine List.ext_getElem (by rw [tuR_len, tuR_len]) fun j h1 h2 => ?_
  have g0 : j < (tuR ks b o).length := by rw [tuR_len]; exact h2
  have e0 : (tuR ks b (tuR ks b o)).getD j 0 = ixor .u8 ((tuR ks b o).getD j 0) ((strm ks (((tuR ks b o).length + 15) / 16) b).getD j 0) := turnL_get _ _ j g0
  have e1 : (tuR ks b o).getD j 0 = ixor .u8 (o.getD j 0) ((strm ks ((o.length + 15) / 16) b).getD j 0) := turnL_get _ _ j h2
  rw [e1, tuR_len, ixor_twice (by rw [List.getD_eq_getElem?_getD, List.getElem?_eq_getElem h2]; exact h _ (List.getElem_mem h2))] at e0
  rw [List.getD_eq_getElem?_getD, List.getD_eq_getElem?_getD, List.getElem?_eq_getElem h1, List.getElem?_eq_getElem h2] at e0
  exact e0
theorem lt_ok (kf bf : Nat → Int) (a b : List Int) (capa capb : Nat) (ha : a.length ≤ 100) (hb : b.length ≤ 100) (ca : a.length ≤ capa) (cb : b.length ≤ capb) (hk : ∀ j, inR (g2 (keyL 32 kf) j)) (hf : ∀ j, inR (g2 (keyL 16 bf) j)) (ra : ∀ z ∈ a, inR z) (rb : ∀ z ∈ b, inR z) (ek : keyL 32 (g2 (keyL 32 kf)) = keyL 32 kf) : From Try.prog fLT (ltA kf bf a.length b.length capa capb) (ltP a b) 2 [] [.fin] (ltE a b) := by
  have hC : ltC a b = a ++ b := by unfold ltC; rw [List.take_length, List.take_length]
  have hY : ∀ o, ltY kf bf o = ltX kf bf o := fun o => by unfold ltY ltX lsK; rw [ek]
  have X1 : (ltX kf bf (a ++ b)).length = a.length + b.length := by unfold ltX; rw [tuR_len, List.length_append]
  have X2 : ltX kf bf (ltX kf bf (a ++ b)) = a ++ b := tuR_twice _ _ _ fun z hz => by
    rcases List.mem_append.1 hz with h | h
    · exact ra z h
    · exact rb z h
  have kl : (lsK kf).length = 240 := keyL_len _ _
  refine From.run tyT_ok ltO_ok mixed_ (lt_run kf bf a b capa capb) ?_
  rw [hC, hY, X2]
  simp only [List.take_length, widths_o, X1, List.length_append]
  refine ⟨tB_ngt.2 (by omega), tB_ngt.2 (by omega), ⟨Nat.le_refl _, fun j _ => by rw [Nat.zero_add]; exact hk j⟩, ⟨by trivial, by trivial⟩, by omega, by omega, by omega, by omega, by omega, ⟨by trivial, ca⟩, ⟨by trivial, cb⟩, ⟨by trivial, kl, keyL_len _ _, by omega⟩, by omega, ⟨by trivial, Nat.le_refl _⟩, by trivial, ⟨keyL_len _ _, keyL_len _ _, hk, hf, by omega⟩, by omega, ?_, by trivial, ⟨by trivial, kl, keyL_len _ _, by omega⟩, by omega, by omega, ?_, trivial⟩
  · exact tB_iff.2 (beq_self_eq_true _)
  · exact tB_iff.2 (beq_self_eq_true _)
theorem lawTurns_fact (key f a b : List Int) (pa pb : Option Addr) (capa capb : Nat) (lk : key.length = 32) (lf : f.length = 16) (wk : ∀ z ∈ key, (Lit.int .u8 z).wf = true) (wf : ∀ z ∈ f, (Lit.int .u8 z).wf = true) {W : World} (hgw : GWok W.heap.size [] W) (ra : RowAt W ⟨pa, capa⟩ .u8 a ∧ ∀ z ∈ a, (Lit.int .u8 z).wf = true) (rb : RowAt W ⟨pb, capb⟩ .u8 b ∧ ∀ z ∈ b, (Lit.int .u8 z).wf = true) : Calls Try.prog 8 #[.agg (key.map (Value.int .u8)).toArray, .agg (f.map (Value.int .u8)).toArray, .agg #[.slice pa a.length capa, .slice pb b.length capb]] W fun e w' => e = .returned (.bool true) ∧ Below W.heap.size W w' := by
  have hG := hr_rows [(⟨pa, capa⟩, .u8, a), (⟨pb, capb⟩, .u8, b)] (fun x hx => by
    simp only [List.mem_cons, List.not_mem_nil, or_false] at hx
    rcases hx with rfl | rfl
    · exact ra.1
    · exact rb.1) hgw
  have ca : a.length ≤ capa := ra.1.1
  have cb : b.length ≤ capb := rb.1.1
  have ek := keyL_g2 lk
  have ef := keyL_g2 lf
  have hR : From Try.prog fLT (ltA (g2 key) (g2 f) a.length b.length capa capb) (ltP a b) 2 [] [.fin] (ltE a b) := by
    by_cases h : a.length ≤ 100
    · by_cases h' : b.length ≤ 100
      · refine lt_ok _ _ a b capa capb h h' ca cb ?_ ?_ (fun z hz => wf_inR (ra.2 z hz)) (fun z hz => wf_inR (rb.2 z hz)) ?_
        · rw [ek]; exact wf_g2 wk
        · rw [ef]; exact wf_g2 wf
        · rw [ek]; exact ek
      · exact From.run tyT_ok ltO_ok mixed_ (lt_long2 _ _ a b capa capb) ⟨tB_ngt.2 (by omega), tB_gt.2 (by omega), trivial⟩
    · exact From.run tyT_ok ltO_ok mixed_ (lt_long1 _ _ a b capa capb) ⟨tB_gt.2 (by omega), trivial⟩
  have := law_reach Try.func8 hR (.inr rfl) (by kernel_rfl) (by kernel_rfl) (by kernel_rfl) hG
  simp only [ltA, List.map_cons, List.map_nil, ek, ef] at this
  have e2 : SV.conc (fun i => ([(⟨pa, capa⟩, IntKind.u8, a), (⟨pb, capb⟩, .u8, b)].map (·.1)).getD i ⟨none, 0⟩) (.av (.agg [.s 0 0 a.length capa, .s 1 0 b.length capb])) = .agg #[.slice pa a.length capa, .slice pb b.length capb] := by
    simp only [SV.conc, AV.conc, segsVals, List.flatMap_cons, List.flatMap_nil, Seg.vals, Seg.conc]
    cases pa <;> cases pb <;> simp [Addr.add]
  simp only [List.map_cons, List.map_nil] at e2
  rw [e2] at this
  exact this
end Go.Proofs.Ytkoackalpcmhaaa.Am
/- No variable of the package is known: none is read. Conditions: none. -/
namespace Go.Proofs.Ytkoackalpcmhaaa.Am
set_option linter.unusedVariables false
set_option linter.unusedSimpArgs false
open Go
instance gt0 : GT := ⟨[]⟩
theorem gw0 {N : Nat} {M : List Nat} {w : World} : GWok N M w := fun x h => by cases h
end Go.Proofs.Ytkoackalpcmhaaa.Am
