/- The walk of MeanRatios. -/
import Derived.Test.YtfhcgnkjncfeiaaMd
import Derived.Test.YtfhcgnkjncfeiaaFlI
namespace Go.Proofs.Ytfhcgnkjncfeiaa
open Go.ChangeShapes Go.WideShapes Go.RowKit Fl

theorem key_plain {r : Nat} (h : r < INF) : key r = r := by
  obtain ⟨_, _, h3, h4⟩ := plain_fine h
  unfold key; rw [h3, h4]; rfl
theorem flt_plain {r s : Nat} (hr : r < INF) (hs : s < INF) : flt r s = decide (r < s) := by
  rw [flt_key r s (plain_fine hr).2.1 (plain_fine hs).2.1, key_plain hr, key_plain hs]
  simp
theorem feq_plain {r s : Nat} (hr : r < INF) (hs : s < INF) : feq r s = decide (r = s) := by
  unfold feq
  rw [(plain_fine hr).2.1, (plain_fine hs).2.1, key_plain hr, key_plain hs]
  simp only [Bool.not_false, Bool.true_and, decide_eq_decide]
  omega
theorem ONE_lt : ONE < INF := by decide
theorem part_tests {a b : Nat} (hab : a ≤ b) (hb : 1 ≤ b ∧ b ≤ 1000000) :
    flt 0 (quoW a b) = (!decide (a = 0)) ∧ flt (quoW a b) 4607182418800017408 = (!decide (a = b)) ∧
    feq (quoW a b) 4607182418800017408 = decide (a = b) ∧ feq (quoW a b) 0 = decide (a = 0) := by
  have hI := (quoW_near a b (by omega) (by omega)).2
  have h0 : (0 : Nat) < INF := by decide
  have h1 : (4607182418800017408 : Nat) < INF := by decide
  have hle := parts_le_one hab hb
  have hO : ONE = 4607182418800017408 := rfl
  rw [flt_plain h0 hI, feq_plain hI h0, flt_plain hI h1, feq_plain hI h1]
  have q0 : quoW a b = 0 ↔ a = 0 := by
    constructor
    · intro h
      by_cases ha : a = 0
      · exact ha
      · have := part_pos (by omega : 1 ≤ a) hab hb; omega
    · rintro rfl
      exact part_zero hb
  have q1 : quoW a b = 4607182418800017408 ↔ a = b := by
    constructor
    · intro h
      by_cases hab' : a = b
      · exact hab'
      · have := part_less (by omega : a < b) hb; omega
    · rintro rfl
      exact part_one hb
  refine ⟨?_, ?_, decide_eq_decide.2 q1, decide_eq_decide.2 q0⟩
  · rw [← decide_not, decide_eq_decide, ← q0]; omega
  · rw [← decide_not, decide_eq_decide, ← q1]; omega

attribute [local irreducible] quoW
set_option maxHeartbeats 3200000 in
theorem meanRatios_walk (a b : Int) (w : World) (_ : (Lit.int .i64 a).wf = true) (_ : (Lit.int .i64 b).wf = true) :
    Calls Try.prog 7 #[.int .i64 a, .int .i64 b] w fun e w' => e = .returned (.bool true) ∧ Below w.heap.size w w' := by
  have ha0 : 0 ≤ IntKind.u64.wrap a := by rw [IntKind.wrap_u64]; omega
  have hb0 : 0 ≤ IntKind.u64.wrap b := by rw [IntKind.wrap_u64]; omega
  obtain ⟨q, hq⟩ : ∃ q, (IntKind.u64.wrap b).tmod 1000000 = q := ⟨_, rfl⟩
  have hqb : 0 ≤ q ∧ q < 1000000 := by rw [← hq]; exact ⟨Int.tmod_nonneg _ hb0, Int.tmod_lt_of_pos _ (by decide)⟩
  obtain ⟨N, hN⟩ : ∃ N : Nat, 1 + q = (N : Int) := ⟨(1 + q).toNat, by omega⟩
  have hNb : 1 ≤ N ∧ N ≤ 1000000 := by omega
  have w1 : Hid (wrap64 q = q) := Lib.hid (by unfold wrap64; omega)
  have w2 : Hid (wrap64 (N : Int) = N) := Lib.hid (by unfold wrap64; omega)
  have w3 : Hid (wrap64 ((N : Int) + 1) = (N : Int) + 1) := Lib.hid (by unfold wrap64; omega)
  have w4 : Hid (IntKind.u64.wrap ((N : Int) + 1) = (N : Int) + 1) := Lib.hid (by rw [IntKind.wrap_u64]; omega)
  have nz : ¬ (N : Int) + 1 = 0 := by omega
  obtain ⟨P, hP⟩ := Int.eq_ofNat_of_zero_le (Int.tmod_nonneg ((N : Int) + 1) ha0)
  have hlt := Int.tmod_lt_of_pos (IntKind.u64.wrap a) (by omega : (0 : Int) < (N : Int) + 1)
  rw [hP] at hlt
  have hP := Lib.hid hP
  have hPb : P ≤ N := by omega
  have w5 : Hid (wrap64 (P : Int) = P) := Lib.hid (by unfold wrap64; omega)
  have w6 : Hid (wrap64 ((N : Int) - P) = ((N - P : Nat) : Int)) := Lib.hid (by unfold wrap64; omega)
  have R1 : ratioF P N = quoW P N := ratio_in P N (by omega) (by omega)
  have R2 : ratioF ((N - P : Nat) : Int) N = quoW ((N - P : Nat) : Int) N := ratio_in _ N (by omega) (by omega)
  obtain ⟨t1, t2, t3, t4⟩ := part_tests hPb hNb
  obtain ⟨z, hz, z1, z2⟩ := parts_sum hPb hNb
  have zI : z < INF := Nat.lt_trans z2 (by decide)
  have f1 : flt 4607182409792818153 z = true := by rw [flt_plain (by decide) zI]; exact decide_eq_true z1
  have f2 : flt z 4607182423303617035 = true := by rw [flt_plain zI (by decide)]; exact decide_eq_true z2
  have R1' := Lib.hid R1
  have R2' := Lib.hid R2
  generalize quoW (P : Int) N = x at R1' t1 t2 t3 t4 hz
  generalize quoW ((N - P : Nat) : Int) N = y at R2' hz
  have hadd : ∀ t w, (binOp .add t (.float .f64 x) (.float .f64 y)).run Try.prog w = .ok (.float .f64 z) w := fun t w => run_float_arith w .add t .f64 x y z hz
  have w1 := w1.out
  have w2 := w2.out
  have w3 := w3.out
  have w4 := w4.out
  have w5 := w5.out
  have w6 := w6.out
  have hP := hP.out
  generalize hM : ((N - P : Nat) : Int) = M at w6 R2'
  clear R1 R2 hz z1 z2 zI hPb hNb hqb ha0 hb0
  have hM := Lib.hid hM
  have hP := Lib.hid hP
  have n3 : ((P : Int) == (N : Int)) = decide (P = N) := by rw [Bool.eq_iff_iff]; simp; exact Int.natCast_inj
  have n4 : ((P : Int) == 0) = decide (P = 0) := by rw [Bool.eq_iff_iff]; simp
  have hP := hP.out
  have h5 : (decide (P = N) = true ∨ decide (P = N) = false) := by cases decide (P = N) <;> simp
  have h6 : (decide (P = 0) = true ∨ decide (P = 0) = false) := by cases decide (P = 0) <;> simp
  generalize decide (P = N) = dN at t2 t3 n3 h5
  generalize decide (P = 0) = d0 at t1 t4 n4 h6
  rcases h5 with rfl | rfl <;> rcases h6 with rfl | rfl
  all_goals
    go_enter Try.func7, Try.ntmps7
    go_wp2_with fail
    refine (ratio_any _ _ _).mono ?_
    rintro _ _ ⟨rfl, m1, rfl⟩
    rw [R1'.out]
    go_wp2_with fail
    refine (ratio_any _ _ _).mono ?_
    rintro _ _ ⟨rfl, m2, rfl⟩
    rw [R2'.out]
    go_wp2_with fail
    refine (awake2_any _).mono ?_
    rintro _ w2 ⟨rfl, hb⟩
    go_wp2
    go_ret
    exact ⟨rfl, ⟨hb.os, hb.tape, hb.output, hb.size, hb.block⟩⟩
end Go.Proofs.Ytfhcgnkjncfeiaa
