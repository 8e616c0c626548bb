/- The walks of EdgeNoughts and EdgeNaN. -/
import Derived.Test.YtfhcgnkjncfeiaaL3
namespace Go.Proofs.Ytfhcgnkjncfeiaa
open Go.ChangeShapes Go.WideShapes Go.RowKit Fl

theorem below_alloc {w w' : World} {o : Obj} (h : Below (w.alloc o).heap.size (w.alloc o) w') : Below w.heap.size w w' :=
  ((Below.refl _ _).alloc (Nat.le_refl _) o).trans (h.mono (by simp))
theorem below_drewN {w w' : World} {n : Nat} (h : Below (w.drewN n).heap.size (w.drewN n) w') : Below w.heap.size w w' := ⟨h.os, h.tape, h.output, h.size, h.block⟩
theorem below_drew {w w' : World} (h : Below w.drew.heap.size w.drew w') : Below w.heap.size w w' := ⟨h.os, h.tape, h.output, h.size, h.block⟩

set_option maxHeartbeats 3200000 in
theorem edgeNoughts_walk (a : Int) (w : World) (ha : (Lit.int .u64 a).wf = true) :
    Calls Try.prog 14 #[.int .u64 a] w fun e w' => e = .returned (.bool true) ∧ Below w.heap.size w w' := by
  obtain ⟨x, rfl, wx⟩ := wd_of_wf ha
  clear ha
  have c1 : ecmp 9223372036854775808 0 = -1 := by kernel_rfl
  have c2 : maxAt (two 9223372036854775808 0) 1 = 0 := by kernel_rfl
  have c3 : minAt (two 0 9223372036854775808) 1 = 9223372036854775808 := by kernel_rfl
  have c4 : clampF 9223372036854775808 0 4607182418800017408 = 0 := by kernel_rfl
  have c5 : clampF 0 13830554455654793216 9223372036854775808 = 9223372036854775808 := by kernel_rfl
  have c6 : wholeOk 9223372036854775808 = true := by kernel_rfl
  have c7 : wholeI 9223372036854775808 = 0 := by kernel_rfl
  have c8 : ecmp 0 0 = 0 := by kernel_rfl
  have c9 : ecmp 9223372036854775808 9223372036854775808 = 0 := by kernel_rfl
  have w0 : Wd 0 := by unfold Wd; decide
  have w1 : Wd 9223372036854775808 := by unfold Wd; decide
  have w2 : Wd 13830554455654793216 := by unfold Wd; decide
  have w3 : Wd 4607182418800017408 := by unfold Wd; decide
  have fx := feq_self x
  cases hg : flt 0 x with
  | true =>
    have e1 := ecmp_of_fgt hg
    have fo := flt_asym hg
    have fz : feq x 0 = false := by
      unfold flt at hg; unfold feq
      simp only [Bool.and_eq_true, Bool.not_eq_true', decide_eq_true_eq] at hg
      rw [decide_eq_false (by omega), Bool.and_false]
    clear fx fo
    go_enter Try.func14, Try.ntmps14
    go_wp2_with (first | (go_at_call 36; refine (cmp_any _ _ _ (by assumption) (by assumption)).mono ?_; rintro _ _ ⟨rfl, rfl⟩) | (go_at_call 30; refine (same_any _ _ _ (by assumption) (by assumption)).mono ?_; rintro _ _ ⟨rfl, rfl⟩) | (go_at_call 68; refine (isNaN_any _ _).mono ?_; rintro _ _ ⟨rfl, rfl⟩) | (go_at_call 28; refine (isInf_any _ _ (by assumption) (by assumption)).mono ?_; rintro _ _ ⟨rfl, rfl⟩) | (go_at_call 40; refine (nan_any _).mono ?_; rintro _ _ ⟨rfl, rfl⟩) | (go_at_call 39; refine (infPos_any _).mono ?_; rintro _ _ ⟨rfl, rfl⟩) | (go_at_call 39; refine (infNeg_any _).mono ?_; rintro _ _ ⟨rfl, rfl⟩) | (go_at_call 46; refine (negNought_any _).mono ?_; rintro _ _ ⟨rfl, rfl⟩) | (go_at_call 43; refine (bit_any _ _).mono ?_; rintro _ _ ⟨rfl, rfl⟩) | (go_at_call 42; refine (div_any _ _ _).mono ?_; rintro _ _ ⟨rfl, n, rfl⟩) | (go_at_call 38; refine (whole_any _ _).mono ?_; rintro _ _ ⟨rfl, rfl⟩) | (go_at_call 41; refine (clamp_any _ _ _ _ (by assumption) (by assumption) (by assumption)).mono ?_; rintro _ _ ⟨rfl, rfl⟩) | (go_at_call 37; refine (awake_any _).mono ?_; rintro _ _ ⟨rfl, hb⟩) | (go_at_call 44; refine (min_any (two _ _) _ _ _ _ _ (by decide) (by decide) (two_wd (by assumption) (by assumption)) (two_cells (obj_alloc_at _ _ _ (by first | rfl | simp)))).mono ?_; rintro _ _ ⟨rfl, rfl⟩) | (go_at_call 45; refine (max_any (two _ _) _ _ _ _ _ (by decide) (by decide) (two_wd (by assumption) (by assumption)) (two_cells (obj_alloc_at _ _ _ (by first | rfl | simp)))).mono ?_; rintro _ _ ⟨rfl, rfl⟩))
    go_ret
    replace hb := below_alloc (below_alloc hb)
    exact ⟨rfl, hb⟩
  | false =>
    cases hx : isnan x with
    | true =>
      rw [hx] at fx
      have fz : feq x 0 = false := by unfold feq; rw [hx]; rfl
      go_enter Try.func14, Try.ntmps14
      go_wp2_with (first | (go_at_call 36; refine (cmp_any _ _ _ (by assumption) (by assumption)).mono ?_; rintro _ _ ⟨rfl, rfl⟩) | (go_at_call 30; refine (same_any _ _ _ (by assumption) (by assumption)).mono ?_; rintro _ _ ⟨rfl, rfl⟩) | (go_at_call 68; refine (isNaN_any _ _).mono ?_; rintro _ _ ⟨rfl, rfl⟩) | (go_at_call 28; refine (isInf_any _ _ (by assumption) (by assumption)).mono ?_; rintro _ _ ⟨rfl, rfl⟩) | (go_at_call 40; refine (nan_any _).mono ?_; rintro _ _ ⟨rfl, rfl⟩) | (go_at_call 39; refine (infPos_any _).mono ?_; rintro _ _ ⟨rfl, rfl⟩) | (go_at_call 39; refine (infNeg_any _).mono ?_; rintro _ _ ⟨rfl, rfl⟩) | (go_at_call 46; refine (negNought_any _).mono ?_; rintro _ _ ⟨rfl, rfl⟩) | (go_at_call 43; refine (bit_any _ _).mono ?_; rintro _ _ ⟨rfl, rfl⟩) | (go_at_call 42; refine (div_any _ _ _).mono ?_; rintro _ _ ⟨rfl, n, rfl⟩) | (go_at_call 38; refine (whole_any _ _).mono ?_; rintro _ _ ⟨rfl, rfl⟩) | (go_at_call 41; refine (clamp_any _ _ _ _ (by assumption) (by assumption) (by assumption)).mono ?_; rintro _ _ ⟨rfl, rfl⟩) | (go_at_call 37; refine (awake_any _).mono ?_; rintro _ _ ⟨rfl, hb⟩) | (go_at_call 44; refine (min_any (two _ _) _ _ _ _ _ (by decide) (by decide) (two_wd (by assumption) (by assumption)) (two_cells (obj_alloc_at _ _ _ (by first | rfl | simp)))).mono ?_; rintro _ _ ⟨rfl, rfl⟩) | (go_at_call 45; refine (max_any (two _ _) _ _ _ _ _ (by decide) (by decide) (two_wd (by assumption) (by assumption)) (two_cells (obj_alloc_at _ _ _ (by first | rfl | simp)))).mono ?_; rintro _ _ ⟨rfl, rfl⟩))
      go_ret
      replace hb := below_alloc (below_alloc hb)
      exact ⟨rfl, hb⟩
    | false =>
      rw [hx] at fx
      cases hz : feq x 0 with
      | true =>
        go_enter Try.func14, Try.ntmps14
        go_wp2_with (first | (go_at_call 36; refine (cmp_any _ _ _ (by assumption) (by assumption)).mono ?_; rintro _ _ ⟨rfl, rfl⟩) | (go_at_call 30; refine (same_any _ _ _ (by assumption) (by assumption)).mono ?_; rintro _ _ ⟨rfl, rfl⟩) | (go_at_call 68; refine (isNaN_any _ _).mono ?_; rintro _ _ ⟨rfl, rfl⟩) | (go_at_call 28; refine (isInf_any _ _ (by assumption) (by assumption)).mono ?_; rintro _ _ ⟨rfl, rfl⟩) | (go_at_call 40; refine (nan_any _).mono ?_; rintro _ _ ⟨rfl, rfl⟩) | (go_at_call 39; refine (infPos_any _).mono ?_; rintro _ _ ⟨rfl, rfl⟩) | (go_at_call 39; refine (infNeg_any _).mono ?_; rintro _ _ ⟨rfl, rfl⟩) | (go_at_call 46; refine (negNought_any _).mono ?_; rintro _ _ ⟨rfl, rfl⟩) | (go_at_call 43; refine (bit_any _ _).mono ?_; rintro _ _ ⟨rfl, rfl⟩) | (go_at_call 42; refine (div_any _ _ _).mono ?_; rintro _ _ ⟨rfl, n, rfl⟩) | (go_at_call 38; refine (whole_any _ _).mono ?_; rintro _ _ ⟨rfl, rfl⟩) | (go_at_call 41; refine (clamp_any _ _ _ _ (by assumption) (by assumption) (by assumption)).mono ?_; rintro _ _ ⟨rfl, rfl⟩) | (go_at_call 37; refine (awake_any _).mono ?_; rintro _ _ ⟨rfl, hb⟩) | (go_at_call 44; refine (min_any (two _ _) _ _ _ _ _ (by decide) (by decide) (two_wd (by assumption) (by assumption)) (two_cells (obj_alloc_at _ _ _ (by first | rfl | simp)))).mono ?_; rintro _ _ ⟨rfl, rfl⟩) | (go_at_call 45; refine (max_any (two _ _) _ _ _ _ _ (by decide) (by decide) (two_wd (by assumption) (by assumption)) (two_cells (obj_alloc_at _ _ _ (by first | rfl | simp)))).mono ?_; rintro _ _ ⟨rfl, rfl⟩))
        go_ret
        replace hb := below_alloc (below_alloc hb)
        exact ⟨rfl, hb⟩
      | false =>
        have e2 : ecmp x 9223372036854775808 = -1 := by
          have n0 : isnan 0 = false := by decide
          have k0 : key 0 = 0 := by decide
          have h1 := flt_key 0 x n0 hx
          rw [hg, k0] at h1
          have h2 : ¬ key x = 0 := by
            intro h; unfold feq at hz; rw [hx, n0, h, k0] at hz; simp at hz
          have h3 : ¬ 0 < key x := of_decide_eq_false h1.symm
          have h4 : rank 9223372036854775808 = -1 := by decide
          unfold ecmp cmpI
          rw [h4]
          have h5 : rank x < -1 := by
            unfold rank; unfold key at h2 h3
            rw [hx]
            revert h2 h3
            cases sg x <;> simp <;> intros <;> omega
          rw [if_pos h5]
        go_enter Try.func14, Try.ntmps14
        go_wp2_with (first | (go_at_call 36; refine (cmp_any _ _ _ (by assumption) (by assumption)).mono ?_; rintro _ _ ⟨rfl, rfl⟩) | (go_at_call 30; refine (same_any _ _ _ (by assumption) (by assumption)).mono ?_; rintro _ _ ⟨rfl, rfl⟩) | (go_at_call 68; refine (isNaN_any _ _).mono ?_; rintro _ _ ⟨rfl, rfl⟩) | (go_at_call 28; refine (isInf_any _ _ (by assumption) (by assumption)).mono ?_; rintro _ _ ⟨rfl, rfl⟩) | (go_at_call 40; refine (nan_any _).mono ?_; rintro _ _ ⟨rfl, rfl⟩) | (go_at_call 39; refine (infPos_any _).mono ?_; rintro _ _ ⟨rfl, rfl⟩) | (go_at_call 39; refine (infNeg_any _).mono ?_; rintro _ _ ⟨rfl, rfl⟩) | (go_at_call 46; refine (negNought_any _).mono ?_; rintro _ _ ⟨rfl, rfl⟩) | (go_at_call 43; refine (bit_any _ _).mono ?_; rintro _ _ ⟨rfl, rfl⟩) | (go_at_call 42; refine (div_any _ _ _).mono ?_; rintro _ _ ⟨rfl, n, rfl⟩) | (go_at_call 38; refine (whole_any _ _).mono ?_; rintro _ _ ⟨rfl, rfl⟩) | (go_at_call 41; refine (clamp_any _ _ _ _ (by assumption) (by assumption) (by assumption)).mono ?_; rintro _ _ ⟨rfl, rfl⟩) | (go_at_call 37; refine (awake_any _).mono ?_; rintro _ _ ⟨rfl, hb⟩) | (go_at_call 44; refine (min_any (two _ _) _ _ _ _ _ (by decide) (by decide) (two_wd (by assumption) (by assumption)) (two_cells (obj_alloc_at _ _ _ (by first | rfl | simp)))).mono ?_; rintro _ _ ⟨rfl, rfl⟩) | (go_at_call 45; refine (max_any (two _ _) _ _ _ _ _ (by decide) (by decide) (two_wd (by assumption) (by assumption)) (two_cells (obj_alloc_at _ _ _ (by first | rfl | simp)))).mono ?_; rintro _ _ ⟨rfl, rfl⟩))
        go_ret
        replace hb := below_alloc (below_alloc hb)
        exact ⟨rfl, hb⟩

/-! ### bits laid over -/
theorem or_u64 (x c : Nat) (hx : Wd x) (hc : Wd c) : bits .or .u64 (x : Int) (c : Int) = ((x ||| c : Nat) : Int) := by
  have h1 : bits .or .u64 (x : Int) (c : Int) = IntKind.u64.wrap (((BitVec.ofInt 64 (x : Int) ||| BitVec.ofInt 64 (c : Int)).toNat : Nat) : Int) := rfl
  have e1 : ∀ n : Nat, Wd n → (BitVec.ofInt 64 (n : Int)).toNat = n := by
    intro n h
    rw [BitVec.toNat_ofInt]; unfold Wd at h
    have : ((2 ^ 64 : Nat) : Int) = 18446744073709551616 := by decide
    rw [this]; omega
  rw [h1, BitVec.toNat_or, e1 x hx, e1 c hc]
  refine nat_wrap_u64 _ ?_
  have e : (18446744073709551616 : Nat) = 2 ^ 64 := by decide
  unfold Wd at hx hc
  rw [e] at hx hc ⊢
  exact Nat.or_lt_two_pow hx hc
theorem or_nan (x c : Nat) (hx : Wd x) (hc : Wd c) (h : c &&& 9218868437227405313 = 9218868437227405313) : Wd (x ||| c) ∧ isnan (x ||| c) = true := by
  have e : (18446744073709551616 : Nat) = 2 ^ 64 := by decide
  constructor
  · unfold Wd at hx hc ⊢
    rw [e] at hx hc ⊢
    exact Nat.or_lt_two_pow hx hc
  · rw [isnan_iff, INF_val]
    have e2 : rg (x ||| c) = (x ||| c) &&& (2 ^ 63 - 1) := by rw [Nat.and_two_pow_sub_one_eq_mod]; rfl
    have e3 : (2 ^ 63 - 1 : Nat) &&& 9218868437227405313 = 9218868437227405313 := by decide
    have e4 : ((x ||| c) &&& (2 ^ 63 - 1)) &&& 9218868437227405313 = 9218868437227405313 := by
      rw [Nat.and_assoc, e3]
      apply Nat.eq_of_testBit_eq
      intro i
      have h' := congrArg (fun n => n.testBit i) h
      simp only [Nat.testBit_and] at h'
      rw [Nat.testBit_and, Nat.testBit_or]
      cases hq : Nat.testBit 9218868437227405313 i
      · rw [Bool.and_false]
      · rw [hq] at h'; rw [Bool.and_true] at h' ⊢; rw [h', Bool.or_true]
    have := Nat.and_le_left (n := (x ||| c) &&& (2 ^ 63 - 1)) (m := 9218868437227405313)
    rw [e4] at this
    rw [e2]; omega

set_option maxHeartbeats 3200000 in
theorem edgeNaN_walk (a b : Int) (w : World) (ha : (Lit.int .u64 a).wf = true) (hb : (Lit.int .u64 b).wf = true) :
    Calls Try.prog 13 #[.int .u64 a, .int .u64 b] w fun e w' => e = .returned (.bool true) ∧ Below w.heap.size w w' := by
  obtain ⟨p, rfl, wp⟩ := wd_of_wf ha
  obtain ⟨y, rfl, wy⟩ := wd_of_wf hb
  clear ha hb
  have wc : Wd 9218868437227405313 := by unfold Wd; decide
  have wd : Wd 18442240474082181121 := by unfold Wd; decide
  have w3 : Wd 4607182418800017408 := by unfold Wd; decide
  have o1 : bits .or .u64 (p : Int) 9218868437227405313 = ((p ||| 9218868437227405313 : Nat) : Int) := or_u64 p _ wp wc
  have o2 : bits .or .u64 (y : Int) 18442240474082181121 = ((y ||| 18442240474082181121 : Nat) : Int) := or_u64 y _ wy wd
  obtain ⟨wx, nx⟩ := or_nan p 9218868437227405313 wp wc (by decide)
  obtain ⟨wz, nz⟩ := or_nan y 18442240474082181121 wy wd (by decide)
  generalize p ||| 9218868437227405313 = x at o1 wx nx
  generalize y ||| 18442240474082181121 = z at o2 wz nz
  have fx : feq x x = false := by rw [feq_self, nx]; rfl
  have fz : feq z z = false := by rw [feq_self, nz]; rfl
  have fy := feq_self y
  have q : quot x y = none := by unfold quot; rw [fdiv_nan_left y nx]; split <;> rfl
  have k : wholeOk x = false := by unfold wholeOk; rw [nx]; rfl
  have c : clampF x y 4607182418800017408 = y := by unfold clampF; rw [nx]; rfl
  have e1 : ecmp x z = 0 := by rw [ecmp_nan x z (Or.inl nx), nx, nz]; rfl
  have e2 := ecmp_nan x y (Or.inl nx)
  have e3 := ecmp_nan y x (Or.inr nx)
  have ey := ecmp_self y
  have ex := ecmp_self x
  have hmn : minAt (two x y) 1 = if ecmp y x < 0 then y else x := rfl
  have hmx : maxAt (two y x) 1 = if 0 < ecmp x y then x else y := rfl
  rw [nx] at e2 e3
  clear wc wd wp nz nx
  cases hy : isnan y
  all_goals
    rw [hy] at fy e2 e3
    simp only [Bool.not_true, Bool.not_false, Bool.false_eq_true, if_true, if_false] at fy e2 e3
    rw [e3] at hmn
    rw [e2] at hmx
    simp only [Int.sub_self, Int.sub_zero, Int.zero_sub, if_neg (by decide : ¬ ((0 : Int) < 0)), if_pos (by decide : ((0 : Int) < 1)), if_pos (by decide : ((-1 : Int) < 0))] at hmn hmx e2 e3
    go_enter Try.func13, Try.ntmps13
    go_wp2_with (first | (go_at_call 36; refine (cmp_any _ _ _ (by assumption) (by assumption)).mono ?_; rintro _ _ ⟨rfl, rfl⟩) | (go_at_call 30; refine (same_any _ _ _ (by assumption) (by assumption)).mono ?_; rintro _ _ ⟨rfl, rfl⟩) | (go_at_call 68; refine (isNaN_any _ _).mono ?_; rintro _ _ ⟨rfl, rfl⟩) | (go_at_call 28; refine (isInf_any _ _ (by assumption) (by assumption)).mono ?_; rintro _ _ ⟨rfl, rfl⟩) | (go_at_call 40; refine (nan_any _).mono ?_; rintro _ _ ⟨rfl, rfl⟩) | (go_at_call 39; refine (infPos_any _).mono ?_; rintro _ _ ⟨rfl, rfl⟩) | (go_at_call 39; refine (infNeg_any _).mono ?_; rintro _ _ ⟨rfl, rfl⟩) | (go_at_call 46; refine (negNought_any _).mono ?_; rintro _ _ ⟨rfl, rfl⟩) | (go_at_call 43; refine (bit_any _ _).mono ?_; rintro _ _ ⟨rfl, rfl⟩) | (go_at_call 42; refine (div_any _ _ _).mono ?_; rintro _ _ ⟨rfl, n, rfl⟩) | (go_at_call 38; refine (whole_any _ _).mono ?_; rintro _ _ ⟨rfl, rfl⟩) | (go_at_call 41; refine (clamp_any _ _ _ _ (by assumption) (by assumption) (by assumption)).mono ?_; rintro _ _ ⟨rfl, rfl⟩) | (go_at_call 37; refine (awake_any _).mono ?_; rintro _ _ ⟨rfl, hb⟩) | (go_at_call 44; refine (min_any (two _ _) _ _ _ _ _ (by decide) (by decide) (two_wd (by assumption) (by assumption)) (two_cells (obj_alloc_at _ _ _ (by first | rfl | simp)))).mono ?_; rintro _ _ ⟨rfl, rfl⟩) | (go_at_call 45; refine (max_any (two _ _) _ _ _ _ _ (by decide) (by decide) (two_wd (by assumption) (by assumption)) (two_cells (obj_alloc_at _ _ _ (by first | rfl | simp)))).mono ?_; rintro _ _ ⟨rfl, rfl⟩))
    go_ret
    replace hb := below_drewN (below_alloc (below_alloc hb))
    exact ⟨rfl, hb⟩
end Go.Proofs.Ytfhcgnkjncfeiaa
