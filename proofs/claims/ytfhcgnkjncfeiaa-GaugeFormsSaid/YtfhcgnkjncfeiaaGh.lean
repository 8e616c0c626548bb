/- The walks of GaugeEnds and GaugeFalls. -/
import Derived.Test.YtfhcgnkjncfeiaaGg
namespace Go.Proofs.Ytfhcgnkjncfeiaa
open Go.ChangeShapes Go.WideShapes Go.RowKit Fl

theorem wf_in {a : Int} (h : (Lit.int .i64 a).wf = true) : -9223372036854775808 ≤ a ∧ a ≤ 9223372036854775807 := by
  have e1 : IntKind.min .i64 = -9223372036854775808 := by decide
  have e2 : IntKind.max .i64 = 9223372036854775807 := by decide
  simp only [Lit.wf, e1, e2, Bool.and_eq_true, decide_eq_true_eq] at h
  exact h
set_option maxRecDepth 100000 in
set_option maxHeartbeats 3200000 in
theorem gaugeEnds_walk (a b : Int) (w : World) (_ : (Lit.int .i64 a).wf = true) (_ : (Lit.int .i64 b).wf = true) :
    Calls Try.prog 20 #[.int .i64 a, .int .i64 b] w fun e w' => e = .returned (.bool true) ∧ Below w.heap.size w w' := by
  have hb0 : 0 ≤ IntKind.u64.wrap b := by rw [IntKind.wrap_u64]; omega
  obtain ⟨q, hq⟩ : ∃ q, (IntKind.u64.wrap b).tmod 1000000 = q := ⟨_, rfl⟩
  have hqb : 0 ≤ q ∧ q < 1000000 := by rw [← hq]; exact ⟨Int.tmod_nonneg _ hb0, Int.tmod_lt_of_pos _ (by decide)⟩
  obtain ⟨P, hP⟩ : ∃ P, 1 + q = P := ⟨_, rfl⟩
  have hPb : 1 ≤ P ∧ P ≤ 1000000 := by omega
  have w1 : wrap64 q = q := by unfold wrap64; omega
  have w2 : wrap64 P = P := by unfold wrap64; omega
  have w3 : IntKind.i64.wrap (1 + q) = P := by rw [hP, IntKind.wrap_i64]; omega
  have w4 : IntKind.i64.wrap (-P) = -P := by rw [IntKind.wrap_i64]; omega
  have w5 : wrap64 (-P) = -P := by unfold wrap64; omega
  have l1 : lifeF a (-P) = INFW := by unfold lifeF; rw [if_pos (by omega)]
  have l2 : lifeF 0 (-1) = INFW := by unfold lifeF; rw [if_pos (by decide)]
  have l3 : lifeF a 0 = 0 := by unfold lifeF; rw [if_neg (by omega), if_pos (by omega)]
  have l4 : lifeF 0 P = 4607182418800017408 := by
    unfold lifeF; rw [if_neg (by omega), if_neg (by omega), show P - max 0 0 = P by omega]; exact ratio_whole P hPb
  have l5 : lifeF (-P) P = 4607182418800017408 := by
    unfold lifeF; rw [if_neg (by omega), if_neg (by omega), show P - max (-P) 0 = P by omega]; exact ratio_whole P hPb
  have K1 := fun w => Lib.hid (life_any a (-P) w (by omega))
  have K2 := fun w => Lib.hid (life_any 0 (-1) w (by decide))
  have K3 := fun w => Lib.hid (life_any a 0 w (by decide))
  have K4 := fun w => Lib.hid (life_any 0 P w (by omega))
  have K5 := fun w => Lib.hid (life_any (-P) P w (by omega))
  rw [l1] at K1; rw [l2] at K2; rw [l3] at K3; rw [l4] at K4; rw [l5] at K5
  have e1 : ecmp INFW INFW = 0 := ecmp_self _
  have e2 : decide (0 < ecmp INFW 4607182418800017408) = true := by kernel_rfl
  have e3 : ecmp 0 0 = 0 := ecmp_self _
  have f1 : feq 4607182418800017408 4607182418800017408 = true := by kernel_rfl
  have dI : Wd INFW := INFW_fine.1
  have d0 : Wd 0 := by unfold Wd; decide
  have d1 : Wd 4607182418800017408 := by unfold Wd; decide
  clear l1 l2 l3 l4 l5 hPb hqb hb0
  go_enter Try.func20, Try.ntmps20
  go_wp2_with fail
  refine (K1 _).out.mono ?_
  rintro _ _ ⟨rfl, m1, rfl⟩
  go_wp2_with fail
  refine (K2 _).out.mono ?_
  rintro _ _ ⟨rfl, m2, rfl⟩
  go_wp2_with fail
  refine (same_any _ _ _ dI dI).mono ?_
  rintro _ _ ⟨rfl, rfl⟩
  go_wp2_with fail
  refine (cmp_any _ _ _ dI d1).mono ?_
  rintro _ _ ⟨rfl, rfl⟩
  go_wp2_with fail
  refine (K3 _).out.mono ?_
  rintro _ _ ⟨rfl, m3, rfl⟩
  go_wp2_with fail
  refine (same_any _ _ _ d0 d0).mono ?_
  rintro _ _ ⟨rfl, rfl⟩
  go_wp2_with fail
  refine (K4 _).out.mono ?_
  rintro _ _ ⟨rfl, m4, rfl⟩
  go_wp2_with fail
  refine (K5 _).out.mono ?_
  rintro _ _ ⟨rfl, m5, rfl⟩
  go_wp2_with fail
  refine (awake22 _).mono ?_
  rintro _ w9 ⟨rfl, hb⟩
  go_wp2
  go_ret
  exact ⟨rfl, ⟨hb.os, hb.tape, hb.output, hb.size, hb.block⟩⟩
end Go.Proofs.Ytfhcgnkjncfeiaa
