/- @@NUM 25 The walk of law 08's awake: the prime answers as a prime should. Conditions: none. -/
import Derived.Test.YtldnjbpcdojffaaR7
import Derived.Test.YtldnjbpcdojffaaR8
namespace Go.Proofs.Ytldnjbpcdojffaa
set_option linter.unusedVariables false
set_option linter.unusedSimpArgs false
open Go Go.RowKit
open Pl (V V8 W4 T256 pP)

attribute [local go_sem ↓] eql_num neq_num
set_option maxHeartbeats 2000000 in
theorem awake_fact : ∀ w : World, Calls Try.prog 13 #[] w fun e w' => e = .returned (.bool true) ∧ Below w.heap.size w w' := by
  obtain ⟨p0, p1, p2, p3, hp, FP⟩ := prime_fact
  have h1 : W4 1 0 0 0 := by unfold W4; omega
  have h2 : W4 2 0 0 0 := by unfold W4; omega
  obtain ⟨s0, s1, s2, s3, ⟨hs, hsv⟩, FS⟩ := Sub_fact p0 p1 p2 p3 1 0 0 0 hp.1 h1
  obtain ⟨a0, a1, a2, a3, ⟨ha, hav⟩, FA⟩ := Add2_fact s0 s1 s2 s3 2 0 0 0 hs h2
  obtain ⟨z, hz, FZ⟩ := zero_fact p0 p1 p2 p3
  have hzf : z = false := by
    cases z
    · rfl
    · have := hz.1 rfl; rw [hp.2] at this; have := pP_pos; omega
  have hE : eqL [(a0 : Int), a1, a2, a3] [1, 0, 0, 0] = true := by
    refine (eqL_V ha h1).2 ?_
    rw [hav, hsv, hp.2]
    decide +kernel
  subst hzf
  have HP := Lib.hid FP; have HS := Lib.hid FS; have HA := Lib.hid FA; have HZ := Lib.hid FZ
  clear FP FS FA FZ hz hav ha hsv hs hp h1 h2
  intro w
  go_enter Try.func13, Try.ntmps13
  go_wp2_with (fail)
  go_at_call 24
  refine (HP.out _).mono ?_
  rintro e w1 ⟨rfl, hb⟩
  have HB1 : Hid (Below w.heap.size w w1) := Lib.hid (below_call (by go_grown) (by simp) hb)
  clear hb
  go_wp2_with (fail)
  go_at_call 26
  refine (HS.out _).mono ?_
  rintro e w2 ⟨rfl, hb⟩
  have HB2 : Hid (Below w.heap.size w w2) := Lib.hid (below_call (by have := HB1.out; have := HB1.out.size; go_grown) (by have := HB1.out.size; simp; omega) hb)
  have HP2 := Lib.hid (heap_keep' hb (heap_new _ _))
  clear hb
  go_wp2_with (fail)
  go_at_call 23
  refine (HA.out _ _ (heap_new _ _)).mono ?_
  rintro e w3 ⟨rfl, hb⟩
  have HB3 : Hid (Below w.heap.size w w3) := Lib.hid (below_call (by have := HB2.out; have := HB2.out.size; go_grown) (by have := HB2.out.size; simp; omega) hb)
  have HP3 := Lib.hid (heap_keep' hb (heap_old HP2.out _))
  clear hb HP2
  have cP := cells4 HP3.out
  go_wp2_with (fail)
  go_at_call 15
  refine (HZ.out _).mono ?_
  rintro e w4 ⟨rfl, hb⟩
  have HB4 : Hid (Below w.heap.size w w4) := Lib.hid (below_call (by have := HB3.out; have := HB3.out.size; go_grown) (by have := HB3.out.size; first | exact this | (simp; omega)) hb)
  clear hb
  go_wp2
  go_ret
  refine ⟨rfl, ?_⟩
  have := HB4.out; have := HB4.out.size
  go_grown

end Go.Proofs.Ytldnjbpcdojffaa
