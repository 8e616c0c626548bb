/- The walks of EdgeNoughts, EdgeTurns and EdgeNaN. -/
import Derived.Test.YtfhcgnkjncfeiaaL2
namespace Go.Proofs.Ytfhcgnkjncfeiaa
open Go.ChangeShapes Go.WideShapes Go.RowKit Fl

/-! ### the sign turned -/
def negF (x : Nat) : Nat := Op.negFloat .f64 x
@[go_sem] theorem negFloat_eq (x : Nat) : Op.negFloat .f64 x = negF x := rfl
@[go_sem] theorem unary_neg_float (x : Nat) : Op.unary .neg (.float .f64 x) = pure (.float .f64 (negF x)) := rfl
theorem negF_xor (x : Nat) : negF x = x ^^^ 2 ^ 63 := rfl
theorem xor_low {x : Nat} (h : x < 9223372036854775808) : x ^^^ 2 ^ 63 = 2 ^ 63 + x := by
  apply Nat.eq_of_testBit_eq
  intro i
  rw [Nat.testBit_xor, Nat.testBit_two_pow]
  rcases Nat.lt_trichotomy i 63 with hi | hi | hi
  · rw [Nat.testBit_two_pow_add_gt hi, decide_eq_false (by omega), Bool.xor_false]
  · subst hi; rw [Nat.testBit_two_pow_add_eq]; simp
  · rw [decide_eq_false (by omega), Bool.xor_false]
    have e : (2 : Nat) ^ 63 = 9223372036854775808 := by decide
    have h2 : (2 : Nat) ^ 64 ≤ 2 ^ i := Nat.pow_le_pow_right (by decide) (by omega)
    have e3 : (2 : Nat) ^ 64 = 18446744073709551616 := by decide
    rw [Nat.testBit_lt_two_pow (by omega), Nat.testBit_lt_two_pow (by omega)]
theorem negF_low {x : Nat} (h : x < 9223372036854775808) : negF x = 9223372036854775808 + x := by rw [negF_xor, xor_low h]
theorem negF_high {x : Nat} (h : x < 9223372036854775808) : negF (9223372036854775808 + x) = x := by
  have e : 9223372036854775808 + x = x ^^^ 2 ^ 63 := (xor_low h).symm
  rw [negF_xor, e, Nat.xor_assoc, Nat.xor_self, Nat.xor_zero]
theorem negF_fine {x : Nat} (h : Wd x) : Wd (negF x) ∧ rg (negF x) = rg x ∧ sg (negF x) = !sg x := by
  unfold Wd at h ⊢
  by_cases hx : x < 9223372036854775808
  · rw [negF_low hx]
    refine ⟨by omega, by unfold rg; omega, ?_⟩
    unfold sg
    rw [show (9223372036854775808 + x) / 9223372036854775808 = 1 from by omega, show x / 9223372036854775808 = 0 from by omega]
    rfl
  · obtain ⟨r, rfl⟩ : ∃ r, x = 9223372036854775808 + r := ⟨x - 9223372036854775808, by omega⟩
    have hr : r < 9223372036854775808 := by omega
    rw [negF_high hr]
    refine ⟨by omega, by unfold rg; omega, ?_⟩
    unfold sg
    rw [show (9223372036854775808 + r) / 9223372036854775808 = 1 from by omega, show r / 9223372036854775808 = 0 from by omega]
    rfl
theorem negF_isnan {x : Nat} (h : Wd x) : isnan (negF x) = isnan x := by unfold isnan; rw [(negF_fine h).2.1]
theorem negF_rank {x : Nat} (h : Wd x) (hn : isnan x = false) : rank (negF x) = -1 - rank x := by
  obtain ⟨_, h2, h3⟩ := negF_fine h
  unfold rank
  rw [negF_isnan h, hn, h2, h3]
  cases sg x <;> simp <;> omega
theorem negF_ecmp {x y : Nat} (wx : Wd x) (wy : Wd y) (hx : isnan x = false) (hy : isnan y = false) : ecmp (negF x) (negF y) = -ecmp x y := by
  unfold ecmp
  rw [negF_rank wx hx, negF_rank wy hy]
  unfold cmpI
  split <;> split <;> (try split) <;> (try split) <;> omega

set_option maxHeartbeats 3200000 in
theorem edgeTurns_walk (a b : Int) (w : World) (ha : (Lit.int .u64 a).wf = true) (hb : (Lit.int .u64 b).wf = true) :
    Calls Try.prog 15 #[.int .u64 a, .int .u64 b] w fun e w' => e = .returned (.bool true) ∧ Below w.heap.size w w' := by
  obtain ⟨x, rfl, wx⟩ := wd_of_wf ha
  obtain ⟨y, rfl, wy⟩ := wd_of_wf hb
  clear ha hb
  have fx := feq_self x
  have fy := feq_self y
  cases hx : isnan x with
  | true =>
    rw [hx] at fx
    go_enter Try.func15, Try.ntmps15
    go_wp2_with (first | (go_at_call 36; refine (cmp_any _ _ _ (by assumption) (by assumption)).mono ?_; rintro _ _ ⟨rfl, rfl⟩) | (go_at_call 30; refine (same_any _ _ _ (by assumption) (by assumption)).mono ?_; rintro _ _ ⟨rfl, rfl⟩) | (go_at_call 68; refine (isNaN_any _ _).mono ?_; rintro _ _ ⟨rfl, rfl⟩) | (go_at_call 28; refine (isInf_any _ _ (by assumption) (by assumption)).mono ?_; rintro _ _ ⟨rfl, rfl⟩) | (go_at_call 40; refine (nan_any _).mono ?_; rintro _ _ ⟨rfl, rfl⟩) | (go_at_call 39; refine (infPos_any _).mono ?_; rintro _ _ ⟨rfl, rfl⟩) | (go_at_call 39; refine (infNeg_any _).mono ?_; rintro _ _ ⟨rfl, rfl⟩) | (go_at_call 46; refine (negNought_any _).mono ?_; rintro _ _ ⟨rfl, rfl⟩) | (go_at_call 43; refine (bit_any _ _).mono ?_; rintro _ _ ⟨rfl, rfl⟩) | (go_at_call 42; refine (div_any _ _ _).mono ?_; rintro _ _ ⟨rfl, n, rfl⟩) | (go_at_call 38; refine (whole_any _ _).mono ?_; rintro _ _ ⟨rfl, rfl⟩) | (go_at_call 41; refine (clamp_any _ _ _ _ (by assumption) (by assumption) (by assumption)).mono ?_; rintro _ _ ⟨rfl, rfl⟩) | (go_at_call 37; refine (awake_any _).mono ?_; rintro _ _ ⟨rfl, hb⟩))
    go_ret
    exact ⟨rfl, hb⟩
  | false =>
    rw [hx] at fx
    cases hy : isnan y with
    | true =>
      rw [hy] at fy
      go_enter Try.func15, Try.ntmps15
      go_wp2_with (first | (go_at_call 36; refine (cmp_any _ _ _ (by assumption) (by assumption)).mono ?_; rintro _ _ ⟨rfl, rfl⟩) | (go_at_call 30; refine (same_any _ _ _ (by assumption) (by assumption)).mono ?_; rintro _ _ ⟨rfl, rfl⟩) | (go_at_call 68; refine (isNaN_any _ _).mono ?_; rintro _ _ ⟨rfl, rfl⟩) | (go_at_call 28; refine (isInf_any _ _ (by assumption) (by assumption)).mono ?_; rintro _ _ ⟨rfl, rfl⟩) | (go_at_call 40; refine (nan_any _).mono ?_; rintro _ _ ⟨rfl, rfl⟩) | (go_at_call 39; refine (infPos_any _).mono ?_; rintro _ _ ⟨rfl, rfl⟩) | (go_at_call 39; refine (infNeg_any _).mono ?_; rintro _ _ ⟨rfl, rfl⟩) | (go_at_call 46; refine (negNought_any _).mono ?_; rintro _ _ ⟨rfl, rfl⟩) | (go_at_call 43; refine (bit_any _ _).mono ?_; rintro _ _ ⟨rfl, rfl⟩) | (go_at_call 42; refine (div_any _ _ _).mono ?_; rintro _ _ ⟨rfl, n, rfl⟩) | (go_at_call 38; refine (whole_any _ _).mono ?_; rintro _ _ ⟨rfl, rfl⟩) | (go_at_call 41; refine (clamp_any _ _ _ _ (by assumption) (by assumption) (by assumption)).mono ?_; rintro _ _ ⟨rfl, rfl⟩) | (go_at_call 37; refine (awake_any _).mono ?_; rintro _ _ ⟨rfl, hb⟩))
      go_ret
      exact ⟨rfl, hb⟩
    | false =>
      rw [hy] at fy
      have wnx := (negF_fine wx).1
      have wny := (negF_fine wy).1
      have e1 := negF_ecmp wx wy hx hy
      have e2 := neg_wrap x y
      by_cases h : 0 < ecmp y x
      · have m1 : maxAt (two x y) 1 = y := by show (if 0 < ecmp y x then y else x) = y; rw [if_pos h]
        have m2 : minAt (two (negF x) (negF y)) 1 = negF y := by
          show (if ecmp (negF y) (negF x) < 0 then negF y else negF x) = _
          rw [negF_ecmp wy wx hy hx, if_pos (by omega)]
        have e3 := ecmp_self (negF y)
        clear h
        go_enter Try.func15, Try.ntmps15
        go_wp2_with (first | (go_at_call 36; refine (cmp_any _ _ _ (by assumption) (by assumption)).mono ?_; rintro _ _ ⟨rfl, rfl⟩) | (go_at_call 30; refine (same_any _ _ _ (by assumption) (by assumption)).mono ?_; rintro _ _ ⟨rfl, rfl⟩) | (go_at_call 68; refine (isNaN_any _ _).mono ?_; rintro _ _ ⟨rfl, rfl⟩) | (go_at_call 28; refine (isInf_any _ _ (by assumption) (by assumption)).mono ?_; rintro _ _ ⟨rfl, rfl⟩) | (go_at_call 40; refine (nan_any _).mono ?_; rintro _ _ ⟨rfl, rfl⟩) | (go_at_call 39; refine (infPos_any _).mono ?_; rintro _ _ ⟨rfl, rfl⟩) | (go_at_call 39; refine (infNeg_any _).mono ?_; rintro _ _ ⟨rfl, rfl⟩) | (go_at_call 46; refine (negNought_any _).mono ?_; rintro _ _ ⟨rfl, rfl⟩) | (go_at_call 43; refine (bit_any _ _).mono ?_; rintro _ _ ⟨rfl, rfl⟩) | (go_at_call 42; refine (div_any _ _ _).mono ?_; rintro _ _ ⟨rfl, n, rfl⟩) | (go_at_call 38; refine (whole_any _ _).mono ?_; rintro _ _ ⟨rfl, rfl⟩) | (go_at_call 41; refine (clamp_any _ _ _ _ (by assumption) (by assumption) (by assumption)).mono ?_; rintro _ _ ⟨rfl, rfl⟩) | (go_at_call 37; refine (awake_any _).mono ?_; rintro _ _ ⟨rfl, hb⟩) | (go_at_call 44; refine (min_any (two _ _) _ _ _ _ _ (by decide) (by decide) (two_wd (by assumption) (by assumption)) (two_cells (obj_alloc_at _ _ _ (by first | rfl | simp)))).mono ?_; rintro _ _ ⟨rfl, rfl⟩) | (go_at_call 45; refine (max_any (two _ _) _ _ _ _ _ (by decide) (by decide) (two_wd (by assumption) (by assumption)) (two_cells (obj_alloc_at _ _ _ (by first | rfl | simp)))).mono ?_; rintro _ _ ⟨rfl, rfl⟩))
        go_ret
        exact ⟨rfl, ((((Below.refl _ _).alloc (Nat.le_refl _) _).alloc (by simp) _).trans ⟨hb.os, hb.tape, hb.output, hb.size, fun k hk => hb.block k (by simp at hk ⊢; omega)⟩)⟩
      · have m1 : maxAt (two x y) 1 = x := by show (if 0 < ecmp y x then y else x) = x; rw [if_neg h]
        have m2 : minAt (two (negF x) (negF y)) 1 = negF x := by
          show (if ecmp (negF y) (negF x) < 0 then negF y else negF x) = _
          rw [negF_ecmp wy wx hy hx, if_neg (by omega)]
        have e3 := ecmp_self (negF x)
        clear h
        go_enter Try.func15, Try.ntmps15
        go_wp2_with (first | (go_at_call 36; refine (cmp_any _ _ _ (by assumption) (by assumption)).mono ?_; rintro _ _ ⟨rfl, rfl⟩) | (go_at_call 30; refine (same_any _ _ _ (by assumption) (by assumption)).mono ?_; rintro _ _ ⟨rfl, rfl⟩) | (go_at_call 68; refine (isNaN_any _ _).mono ?_; rintro _ _ ⟨rfl, rfl⟩) | (go_at_call 28; refine (isInf_any _ _ (by assumption) (by assumption)).mono ?_; rintro _ _ ⟨rfl, rfl⟩) | (go_at_call 40; refine (nan_any _).mono ?_; rintro _ _ ⟨rfl, rfl⟩) | (go_at_call 39; refine (infPos_any _).mono ?_; rintro _ _ ⟨rfl, rfl⟩) | (go_at_call 39; refine (infNeg_any _).mono ?_; rintro _ _ ⟨rfl, rfl⟩) | (go_at_call 46; refine (negNought_any _).mono ?_; rintro _ _ ⟨rfl, rfl⟩) | (go_at_call 43; refine (bit_any _ _).mono ?_; rintro _ _ ⟨rfl, rfl⟩) | (go_at_call 42; refine (div_any _ _ _).mono ?_; rintro _ _ ⟨rfl, n, rfl⟩) | (go_at_call 38; refine (whole_any _ _).mono ?_; rintro _ _ ⟨rfl, rfl⟩) | (go_at_call 41; refine (clamp_any _ _ _ _ (by assumption) (by assumption) (by assumption)).mono ?_; rintro _ _ ⟨rfl, rfl⟩) | (go_at_call 37; refine (awake_any _).mono ?_; rintro _ _ ⟨rfl, hb⟩) | (go_at_call 44; refine (min_any (two _ _) _ _ _ _ _ (by decide) (by decide) (two_wd (by assumption) (by assumption)) (two_cells (obj_alloc_at _ _ _ (by first | rfl | simp)))).mono ?_; rintro _ _ ⟨rfl, rfl⟩) | (go_at_call 45; refine (max_any (two _ _) _ _ _ _ _ (by decide) (by decide) (two_wd (by assumption) (by assumption)) (two_cells (obj_alloc_at _ _ _ (by first | rfl | simp)))).mono ?_; rintro _ _ ⟨rfl, rfl⟩))
        go_ret
        exact ⟨rfl, ((((Below.refl _ _).alloc (Nat.le_refl _) _).alloc (by simp) _).trans ⟨hb.os, hb.tape, hb.output, hb.size, fun k hk => hb.block k (by simp at hk ⊢; omega)⟩)⟩
end Go.Proofs.Ytfhcgnkjncfeiaa
