/- The walk of EdgeOne. -/
import Derived.Test.YtfhcgnkjncfeiaaKe
namespace Go.Proofs.Ytfhcgnkjncfeiaa
open Go.ChangeShapes Go.WideShapes Go.RowKit Fl

theorem wd_of_wf {a : Int} (h : (Lit.int .u64 a).wf = true) : ∃ x : Nat, a = x ∧ Wd x := by
  have e1 : IntKind.min .u64 = 0 := by decide
  have e2 : IntKind.max .u64 = 18446744073709551615 := by decide
  simp only [Lit.wf, e1, e2, Bool.and_eq_true, decide_eq_true_eq] at h
  exact ⟨a.toNat, by omega, by unfold Wd; omega⟩
theorem neg_wrap (a b : Nat) : IntKind.i64.wrap (-ecmp a b) = -ecmp a b := by
  have := ecmp_bd a b
  rw [IntKind.wrap_i64]; omega
theorem ecmp_of_flt {x y : Nat} (h : flt x y = true) : ecmp x y = -1 := by
  unfold flt at h
  simp only [Bool.and_eq_true, Bool.not_eq_true', decide_eq_true_eq] at h
  have := key_rank h.1.1 h.1.2 h.2
  unfold ecmp cmpI; rw [if_pos this]
theorem ecmp_of_fgt {x y : Nat} (h : flt y x = true) : ecmp x y = 1 := by
  rw [ecmp_neg, ecmp_of_flt h]; rfl
theorem flt_asym {x y : Nat} (h : flt x y = true) : flt y x = false := by
  unfold flt at h ⊢
  simp only [Bool.and_eq_true, Bool.not_eq_true', decide_eq_true_eq] at h
  have : ¬ key y < key x := by omega
  rw [decide_eq_false this, Bool.and_false]
/-- one, or both no numbers -/
theorem ecmp_zero_iff {x y : Nat} (wx : Wd x) (wy : Wd y) : decide (ecmp x y = 0) = (decide (x = y) || (isnan x && isnan y)) := by
  rw [Bool.eq_iff_iff]
  simp only [decide_eq_true_eq, Bool.or_eq_true, Bool.and_eq_true]
  rw [ecmp_eq_iff]
  constructor
  · exact rank_inj wx wy
  · rintro (rfl | ⟨h1, h2⟩)
    · rfl
    · rw [(rank_nan_iff x).2 h1, (rank_nan_iff y).2 h2]

set_option maxHeartbeats 3200000 in
theorem edgeOne_walk (a b c : Int) (w : World) (ha : (Lit.int .u64 a).wf = true) (hb : (Lit.int .u64 b).wf = true) (hc : (Lit.int .u64 c).wf = true) :
    Calls Try.prog 9 #[.int .u64 a, .int .u64 b, .int .u64 c] w fun e w' => e = .returned (.bool true) ∧ Below w.heap.size w w' := by
  obtain ⟨x, rfl, wx⟩ := wd_of_wf ha
  obtain ⟨y, rfl, wy⟩ := wd_of_wf hb
  obtain ⟨z, rfl, wz⟩ := wd_of_wf hc
  clear ha hb hc
  have n1 : IntKind.i64.wrap (-ecmp y x) = ecmp x y := by rw [neg_wrap, ecmp_neg x y]
  have n2 := ecmp_self x
  have n3 : ((x : Int) == (y : Int)) = decide (x = y) := by rw [Bool.eq_iff_iff]; simp; omega
  have tr := Lib.hid (fun (h1 : ecmp x y ≤ 0) (h2 : ecmp y z ≤ 0) => (ecmp_le_iff x z).2 (Int.le_trans ((ecmp_le_iff x y).1 h1) ((ecmp_le_iff y z).1 h2)))
  have one := Lib.hid (ecmp_zero_iff wx wy)
  have sx := feq_self x
  have sy := feq_self y
  have bd := ecmp_bd x y
  have k1 : ∀ w, Calls Try.prog 36 #[.float .f64 x, .float .f64 y] w fun e w' => e = .returned (.int .i64 (ecmp x y)) ∧ w = w' := fun w => cmp_any x y w wx wy
  have fa := Lib.hid (@ecmp_of_flt x y)
  have fb := Lib.hid (@ecmp_of_fgt x y)
  have hp : ecmp x y = -1 ∨ ecmp x y = 0 ∨ ecmp x y = 1 := by omega
  clear bd
  rcases hp with hp | hp | hp
  · have f2 : flt y x = false := by
      cases h : flt y x
      · rfl
      · have := fb.out h; omega
    have ne := one.out
    rw [hp] at ne
    have ne1 : ¬ x = y := by intro h; rw [decide_eq_true h] at ne; simp at ne
    have ne2 : isnan x = true → isnan y = false := by intro h; cases h2 : isnan y with
      | false => rfl
      | true => rw [h, h2] at ne; simp at ne
    rw [decide_eq_false ne1] at n3
    clear ne fa fb one ne1
    by_cases u2 : ecmp y z ≤ 0
    · have u3 := tr.out (by omega) u2
      cases f1 : flt x y <;> cases nx : isnan x
      all_goals
        rw [nx] at sx
        try rw [ne2 nx] at sy
        clear tr ne2
        go_enter Try.func9, Try.ntmps9
        go_wp2_with (first | (go_at_call 36; refine (cmp_any _ _ _ (by assumption) (by assumption)).mono ?_; rintro _ _ ⟨rfl, rfl⟩) | (go_at_call 30; refine (same_any _ _ _ (by assumption) (by assumption)).mono ?_; rintro _ _ ⟨rfl, rfl⟩) | (go_at_call 68; refine (isNaN_any _ _).mono ?_; rintro _ _ ⟨rfl, rfl⟩) | (go_at_call 28; refine (isInf_any _ _ (by assumption) (by assumption)).mono ?_; rintro _ _ ⟨rfl, rfl⟩) | (go_at_call 40; refine (nan_any _).mono ?_; rintro _ _ ⟨rfl, rfl⟩) | (go_at_call 39; refine (infPos_any _).mono ?_; rintro _ _ ⟨rfl, rfl⟩) | (go_at_call 39; refine (infNeg_any _).mono ?_; rintro _ _ ⟨rfl, rfl⟩) | (go_at_call 46; refine (negNought_any _).mono ?_; rintro _ _ ⟨rfl, rfl⟩) | (go_at_call 43; refine (bit_any _ _).mono ?_; rintro _ _ ⟨rfl, rfl⟩) | (go_at_call 42; refine (div_any _ _ _).mono ?_; rintro _ _ ⟨rfl, n, rfl⟩) | (go_at_call 38; refine (whole_any _ _).mono ?_; rintro _ _ ⟨rfl, rfl⟩) | (go_at_call 41; refine (clamp_any _ _ _ _ (by assumption) (by assumption) (by assumption)).mono ?_; rintro _ _ ⟨rfl, rfl⟩) | (go_at_call 37; refine (awake_any _).mono ?_; rintro _ _ ⟨rfl, hb⟩))
        go_ret
        exact ⟨rfl, hb⟩
    · cases f1 : flt x y <;> cases nx : isnan x
      all_goals
        rw [nx] at sx
        try rw [ne2 nx] at sy
        clear tr ne2
        go_enter Try.func9, Try.ntmps9
        go_wp2_with (first | (go_at_call 36; refine (cmp_any _ _ _ (by assumption) (by assumption)).mono ?_; rintro _ _ ⟨rfl, rfl⟩) | (go_at_call 30; refine (same_any _ _ _ (by assumption) (by assumption)).mono ?_; rintro _ _ ⟨rfl, rfl⟩) | (go_at_call 68; refine (isNaN_any _ _).mono ?_; rintro _ _ ⟨rfl, rfl⟩) | (go_at_call 28; refine (isInf_any _ _ (by assumption) (by assumption)).mono ?_; rintro _ _ ⟨rfl, rfl⟩) | (go_at_call 40; refine (nan_any _).mono ?_; rintro _ _ ⟨rfl, rfl⟩) | (go_at_call 39; refine (infPos_any _).mono ?_; rintro _ _ ⟨rfl, rfl⟩) | (go_at_call 39; refine (infNeg_any _).mono ?_; rintro _ _ ⟨rfl, rfl⟩) | (go_at_call 46; refine (negNought_any _).mono ?_; rintro _ _ ⟨rfl, rfl⟩) | (go_at_call 43; refine (bit_any _ _).mono ?_; rintro _ _ ⟨rfl, rfl⟩) | (go_at_call 42; refine (div_any _ _ _).mono ?_; rintro _ _ ⟨rfl, n, rfl⟩) | (go_at_call 38; refine (whole_any _ _).mono ?_; rintro _ _ ⟨rfl, rfl⟩) | (go_at_call 41; refine (clamp_any _ _ _ _ (by assumption) (by assumption) (by assumption)).mono ?_; rintro _ _ ⟨rfl, rfl⟩) | (go_at_call 37; refine (awake_any _).mono ?_; rintro _ _ ⟨rfl, hb⟩))
        go_ret
        exact ⟨rfl, hb⟩
  · have f1 : flt x y = false := by
      cases h : flt x y
      · rfl
      · have := fa.out h; omega
    have f2 : flt y x = false := by
      cases h : flt y x
      · rfl
      · have := fb.out h; omega
    have ne := one.out
    rw [hp] at ne
    by_cases q : x = y
    · rw [decide_eq_true q] at n3
      clear ne fa fb one q
      by_cases u2 : ecmp y z ≤ 0
      · have u3 := tr.out (by omega) u2
        clear tr
        go_enter Try.func9, Try.ntmps9
        go_wp2_with (first | (go_at_call 36; refine (cmp_any _ _ _ (by assumption) (by assumption)).mono ?_; rintro _ _ ⟨rfl, rfl⟩) | (go_at_call 30; refine (same_any _ _ _ (by assumption) (by assumption)).mono ?_; rintro _ _ ⟨rfl, rfl⟩) | (go_at_call 68; refine (isNaN_any _ _).mono ?_; rintro _ _ ⟨rfl, rfl⟩) | (go_at_call 28; refine (isInf_any _ _ (by assumption) (by assumption)).mono ?_; rintro _ _ ⟨rfl, rfl⟩) | (go_at_call 40; refine (nan_any _).mono ?_; rintro _ _ ⟨rfl, rfl⟩) | (go_at_call 39; refine (infPos_any _).mono ?_; rintro _ _ ⟨rfl, rfl⟩) | (go_at_call 39; refine (infNeg_any _).mono ?_; rintro _ _ ⟨rfl, rfl⟩) | (go_at_call 46; refine (negNought_any _).mono ?_; rintro _ _ ⟨rfl, rfl⟩) | (go_at_call 43; refine (bit_any _ _).mono ?_; rintro _ _ ⟨rfl, rfl⟩) | (go_at_call 42; refine (div_any _ _ _).mono ?_; rintro _ _ ⟨rfl, n, rfl⟩) | (go_at_call 38; refine (whole_any _ _).mono ?_; rintro _ _ ⟨rfl, rfl⟩) | (go_at_call 41; refine (clamp_any _ _ _ _ (by assumption) (by assumption) (by assumption)).mono ?_; rintro _ _ ⟨rfl, rfl⟩) | (go_at_call 37; refine (awake_any _).mono ?_; rintro _ _ ⟨rfl, hb⟩))
        go_ret
        exact ⟨rfl, hb⟩
      · clear tr
        go_enter Try.func9, Try.ntmps9
        go_wp2_with (first | (go_at_call 36; refine (cmp_any _ _ _ (by assumption) (by assumption)).mono ?_; rintro _ _ ⟨rfl, rfl⟩) | (go_at_call 30; refine (same_any _ _ _ (by assumption) (by assumption)).mono ?_; rintro _ _ ⟨rfl, rfl⟩) | (go_at_call 68; refine (isNaN_any _ _).mono ?_; rintro _ _ ⟨rfl, rfl⟩) | (go_at_call 28; refine (isInf_any _ _ (by assumption) (by assumption)).mono ?_; rintro _ _ ⟨rfl, rfl⟩) | (go_at_call 40; refine (nan_any _).mono ?_; rintro _ _ ⟨rfl, rfl⟩) | (go_at_call 39; refine (infPos_any _).mono ?_; rintro _ _ ⟨rfl, rfl⟩) | (go_at_call 39; refine (infNeg_any _).mono ?_; rintro _ _ ⟨rfl, rfl⟩) | (go_at_call 46; refine (negNought_any _).mono ?_; rintro _ _ ⟨rfl, rfl⟩) | (go_at_call 43; refine (bit_any _ _).mono ?_; rintro _ _ ⟨rfl, rfl⟩) | (go_at_call 42; refine (div_any _ _ _).mono ?_; rintro _ _ ⟨rfl, n, rfl⟩) | (go_at_call 38; refine (whole_any _ _).mono ?_; rintro _ _ ⟨rfl, rfl⟩) | (go_at_call 41; refine (clamp_any _ _ _ _ (by assumption) (by assumption) (by assumption)).mono ?_; rintro _ _ ⟨rfl, rfl⟩) | (go_at_call 37; refine (awake_any _).mono ?_; rintro _ _ ⟨rfl, hb⟩))
        go_ret
        exact ⟨rfl, hb⟩
    · rw [decide_eq_false q] at ne
      have nx : isnan x = true := by cases h : isnan x <;> simp [h] at ne ⊢
      have ny : isnan y = true := by cases h : isnan y <;> simp [h] at ne ⊢
      rw [decide_eq_false q] at n3
      rw [nx] at sx
      rw [ny] at sy
      clear ne fa fb one q
      by_cases u2 : ecmp y z ≤ 0
      · have u3 := tr.out (by omega) u2
        clear tr
        go_enter Try.func9, Try.ntmps9
        go_wp2_with (first | (go_at_call 36; refine (cmp_any _ _ _ (by assumption) (by assumption)).mono ?_; rintro _ _ ⟨rfl, rfl⟩) | (go_at_call 30; refine (same_any _ _ _ (by assumption) (by assumption)).mono ?_; rintro _ _ ⟨rfl, rfl⟩) | (go_at_call 68; refine (isNaN_any _ _).mono ?_; rintro _ _ ⟨rfl, rfl⟩) | (go_at_call 28; refine (isInf_any _ _ (by assumption) (by assumption)).mono ?_; rintro _ _ ⟨rfl, rfl⟩) | (go_at_call 40; refine (nan_any _).mono ?_; rintro _ _ ⟨rfl, rfl⟩) | (go_at_call 39; refine (infPos_any _).mono ?_; rintro _ _ ⟨rfl, rfl⟩) | (go_at_call 39; refine (infNeg_any _).mono ?_; rintro _ _ ⟨rfl, rfl⟩) | (go_at_call 46; refine (negNought_any _).mono ?_; rintro _ _ ⟨rfl, rfl⟩) | (go_at_call 43; refine (bit_any _ _).mono ?_; rintro _ _ ⟨rfl, rfl⟩) | (go_at_call 42; refine (div_any _ _ _).mono ?_; rintro _ _ ⟨rfl, n, rfl⟩) | (go_at_call 38; refine (whole_any _ _).mono ?_; rintro _ _ ⟨rfl, rfl⟩) | (go_at_call 41; refine (clamp_any _ _ _ _ (by assumption) (by assumption) (by assumption)).mono ?_; rintro _ _ ⟨rfl, rfl⟩) | (go_at_call 37; refine (awake_any _).mono ?_; rintro _ _ ⟨rfl, hb⟩))
        go_ret
        exact ⟨rfl, hb⟩
      · clear tr
        go_enter Try.func9, Try.ntmps9
        go_wp2_with (first | (go_at_call 36; refine (cmp_any _ _ _ (by assumption) (by assumption)).mono ?_; rintro _ _ ⟨rfl, rfl⟩) | (go_at_call 30; refine (same_any _ _ _ (by assumption) (by assumption)).mono ?_; rintro _ _ ⟨rfl, rfl⟩) | (go_at_call 68; refine (isNaN_any _ _).mono ?_; rintro _ _ ⟨rfl, rfl⟩) | (go_at_call 28; refine (isInf_any _ _ (by assumption) (by assumption)).mono ?_; rintro _ _ ⟨rfl, rfl⟩) | (go_at_call 40; refine (nan_any _).mono ?_; rintro _ _ ⟨rfl, rfl⟩) | (go_at_call 39; refine (infPos_any _).mono ?_; rintro _ _ ⟨rfl, rfl⟩) | (go_at_call 39; refine (infNeg_any _).mono ?_; rintro _ _ ⟨rfl, rfl⟩) | (go_at_call 46; refine (negNought_any _).mono ?_; rintro _ _ ⟨rfl, rfl⟩) | (go_at_call 43; refine (bit_any _ _).mono ?_; rintro _ _ ⟨rfl, rfl⟩) | (go_at_call 42; refine (div_any _ _ _).mono ?_; rintro _ _ ⟨rfl, n, rfl⟩) | (go_at_call 38; refine (whole_any _ _).mono ?_; rintro _ _ ⟨rfl, rfl⟩) | (go_at_call 41; refine (clamp_any _ _ _ _ (by assumption) (by assumption) (by assumption)).mono ?_; rintro _ _ ⟨rfl, rfl⟩) | (go_at_call 37; refine (awake_any _).mono ?_; rintro _ _ ⟨rfl, hb⟩))
        go_ret
        exact ⟨rfl, hb⟩
  · have f1 : flt x y = false := by
      cases h : flt x y
      · rfl
      · have := fa.out h; omega
    have ne := one.out
    rw [hp] at ne
    have ne1 : ¬ x = y := by intro h; rw [decide_eq_true h] at ne; simp at ne
    have ne2 : isnan x = true → isnan y = false := by intro h; cases h2 : isnan y with
      | false => rfl
      | true => rw [h, h2] at ne; simp at ne
    rw [decide_eq_false ne1] at n3
    clear ne fa fb one ne1 tr
    cases f2 : flt y x <;> cases nx : isnan x
    all_goals
      rw [nx] at sx
      try rw [ne2 nx] at sy
      clear ne2
      go_enter Try.func9, Try.ntmps9
      go_wp2_with (first | (go_at_call 36; refine (cmp_any _ _ _ (by assumption) (by assumption)).mono ?_; rintro _ _ ⟨rfl, rfl⟩) | (go_at_call 30; refine (same_any _ _ _ (by assumption) (by assumption)).mono ?_; rintro _ _ ⟨rfl, rfl⟩) | (go_at_call 68; refine (isNaN_any _ _).mono ?_; rintro _ _ ⟨rfl, rfl⟩) | (go_at_call 28; refine (isInf_any _ _ (by assumption) (by assumption)).mono ?_; rintro _ _ ⟨rfl, rfl⟩) | (go_at_call 40; refine (nan_any _).mono ?_; rintro _ _ ⟨rfl, rfl⟩) | (go_at_call 39; refine (infPos_any _).mono ?_; rintro _ _ ⟨rfl, rfl⟩) | (go_at_call 39; refine (infNeg_any _).mono ?_; rintro _ _ ⟨rfl, rfl⟩) | (go_at_call 46; refine (negNought_any _).mono ?_; rintro _ _ ⟨rfl, rfl⟩) | (go_at_call 43; refine (bit_any _ _).mono ?_; rintro _ _ ⟨rfl, rfl⟩) | (go_at_call 42; refine (div_any _ _ _).mono ?_; rintro _ _ ⟨rfl, n, rfl⟩) | (go_at_call 38; refine (whole_any _ _).mono ?_; rintro _ _ ⟨rfl, rfl⟩) | (go_at_call 41; refine (clamp_any _ _ _ _ (by assumption) (by assumption) (by assumption)).mono ?_; rintro _ _ ⟨rfl, rfl⟩) | (go_at_call 37; refine (awake_any _).mono ?_; rintro _ _ ⟨rfl, hb⟩))
      go_ret
      exact ⟨rfl, hb⟩
end Go.Proofs.Ytfhcgnkjncfeiaa
