/- The walks of EdgeClamps and EdgeDivs. -/
import Derived.Test.YtfhcgnkjncfeiaaL1
namespace Go.Proofs.Ytfhcgnkjncfeiaa
open Go.ChangeShapes Go.WideShapes Go.RowKit Fl

set_option maxHeartbeats 3200000 in
theorem edgeClamps_walk (a b c : Int) (w : World) (ha : (Lit.int .u64 a).wf = true) (hb : (Lit.int .u64 b).wf = true) (hc : (Lit.int .u64 c).wf = true) :
    Calls Try.prog 11 #[.int .u64 a, .int .u64 b, .int .u64 c] w fun e w' => e = .returned (.bool true) ∧ Below w.heap.size w w' := by
  obtain ⟨x, rfl, wx⟩ := wd_of_wf ha
  obtain ⟨lo, rfl, wl⟩ := wd_of_wf hb
  obtain ⟨hi, rfl, wh⟩ := wd_of_wf hc
  clear ha hb hc
  have n1 := ecmp_self lo
  have fx := feq_self x
  have fl := feq_self lo
  have fh := feq_self hi
  cases hl : isnan lo with
  | true =>
    have e : clampF x lo hi = lo := by unfold clampF; simp [hl]
    rw [hl] at fl
    go_enter Try.func11, Try.ntmps11
    go_wp2_with (first | (go_at_call 36; refine (cmp_any _ _ _ (by assumption) (by assumption)).mono ?_; rintro _ _ ⟨rfl, rfl⟩) | (go_at_call 30; refine (same_any _ _ _ (by assumption) (by assumption)).mono ?_; rintro _ _ ⟨rfl, rfl⟩) | (go_at_call 68; refine (isNaN_any _ _).mono ?_; rintro _ _ ⟨rfl, rfl⟩) | (go_at_call 28; refine (isInf_any _ _ (by assumption) (by assumption)).mono ?_; rintro _ _ ⟨rfl, rfl⟩) | (go_at_call 40; refine (nan_any _).mono ?_; rintro _ _ ⟨rfl, rfl⟩) | (go_at_call 39; refine (infPos_any _).mono ?_; rintro _ _ ⟨rfl, rfl⟩) | (go_at_call 39; refine (infNeg_any _).mono ?_; rintro _ _ ⟨rfl, rfl⟩) | (go_at_call 46; refine (negNought_any _).mono ?_; rintro _ _ ⟨rfl, rfl⟩) | (go_at_call 43; refine (bit_any _ _).mono ?_; rintro _ _ ⟨rfl, rfl⟩) | (go_at_call 42; refine (div_any _ _ _).mono ?_; rintro _ _ ⟨rfl, n, rfl⟩) | (go_at_call 38; refine (whole_any _ _).mono ?_; rintro _ _ ⟨rfl, rfl⟩) | (go_at_call 41; refine (clamp_any _ _ _ _ (by assumption) (by assumption) (by assumption)).mono ?_; rintro _ _ ⟨rfl, rfl⟩) | (go_at_call 37; refine (awake_any _).mono ?_; rintro _ _ ⟨rfl, hb⟩))
    go_ret
    exact ⟨rfl, hb⟩
  | false =>
    rw [hl] at fl
    cases hh : isnan hi with
    | true =>
      have e : clampF x lo hi = lo := by unfold clampF; simp [hh]
      rw [hh] at fh
      go_enter Try.func11, Try.ntmps11
      go_wp2_with (first | (go_at_call 36; refine (cmp_any _ _ _ (by assumption) (by assumption)).mono ?_; rintro _ _ ⟨rfl, rfl⟩) | (go_at_call 30; refine (same_any _ _ _ (by assumption) (by assumption)).mono ?_; rintro _ _ ⟨rfl, rfl⟩) | (go_at_call 68; refine (isNaN_any _ _).mono ?_; rintro _ _ ⟨rfl, rfl⟩) | (go_at_call 28; refine (isInf_any _ _ (by assumption) (by assumption)).mono ?_; rintro _ _ ⟨rfl, rfl⟩) | (go_at_call 40; refine (nan_any _).mono ?_; rintro _ _ ⟨rfl, rfl⟩) | (go_at_call 39; refine (infPos_any _).mono ?_; rintro _ _ ⟨rfl, rfl⟩) | (go_at_call 39; refine (infNeg_any _).mono ?_; rintro _ _ ⟨rfl, rfl⟩) | (go_at_call 46; refine (negNought_any _).mono ?_; rintro _ _ ⟨rfl, rfl⟩) | (go_at_call 43; refine (bit_any _ _).mono ?_; rintro _ _ ⟨rfl, rfl⟩) | (go_at_call 42; refine (div_any _ _ _).mono ?_; rintro _ _ ⟨rfl, n, rfl⟩) | (go_at_call 38; refine (whole_any _ _).mono ?_; rintro _ _ ⟨rfl, rfl⟩) | (go_at_call 41; refine (clamp_any _ _ _ _ (by assumption) (by assumption) (by assumption)).mono ?_; rintro _ _ ⟨rfl, rfl⟩) | (go_at_call 37; refine (awake_any _).mono ?_; rintro _ _ ⟨rfl, hb⟩))
      go_ret
      exact ⟨rfl, hb⟩
    | false =>
      rw [hh] at fh
      cases hx : isnan x with
      | true =>
        have e : clampF x lo hi = lo := by unfold clampF; simp [hx]
        rw [hx] at fx
        go_enter Try.func11, Try.ntmps11
        go_wp2_with (first | (go_at_call 36; refine (cmp_any _ _ _ (by assumption) (by assumption)).mono ?_; rintro _ _ ⟨rfl, rfl⟩) | (go_at_call 30; refine (same_any _ _ _ (by assumption) (by assumption)).mono ?_; rintro _ _ ⟨rfl, rfl⟩) | (go_at_call 68; refine (isNaN_any _ _).mono ?_; rintro _ _ ⟨rfl, rfl⟩) | (go_at_call 28; refine (isInf_any _ _ (by assumption) (by assumption)).mono ?_; rintro _ _ ⟨rfl, rfl⟩) | (go_at_call 40; refine (nan_any _).mono ?_; rintro _ _ ⟨rfl, rfl⟩) | (go_at_call 39; refine (infPos_any _).mono ?_; rintro _ _ ⟨rfl, rfl⟩) | (go_at_call 39; refine (infNeg_any _).mono ?_; rintro _ _ ⟨rfl, rfl⟩) | (go_at_call 46; refine (negNought_any _).mono ?_; rintro _ _ ⟨rfl, rfl⟩) | (go_at_call 43; refine (bit_any _ _).mono ?_; rintro _ _ ⟨rfl, rfl⟩) | (go_at_call 42; refine (div_any _ _ _).mono ?_; rintro _ _ ⟨rfl, n, rfl⟩) | (go_at_call 38; refine (whole_any _ _).mono ?_; rintro _ _ ⟨rfl, rfl⟩) | (go_at_call 41; refine (clamp_any _ _ _ _ (by assumption) (by assumption) (by assumption)).mono ?_; rintro _ _ ⟨rfl, rfl⟩) | (go_at_call 37; refine (awake_any _).mono ?_; rintro _ _ ⟨rfl, hb⟩))
        go_ret
        exact ⟨rfl, hb⟩
      | false =>
        rw [hx] at fx
        by_cases h1 : ecmp hi lo < 0
        · have e : clampF x lo hi = lo := by unfold clampF; simp [h1]
          go_enter Try.func11, Try.ntmps11
          go_wp2_with (first | (go_at_call 36; refine (cmp_any _ _ _ (by assumption) (by assumption)).mono ?_; rintro _ _ ⟨rfl, rfl⟩) | (go_at_call 30; refine (same_any _ _ _ (by assumption) (by assumption)).mono ?_; rintro _ _ ⟨rfl, rfl⟩) | (go_at_call 68; refine (isNaN_any _ _).mono ?_; rintro _ _ ⟨rfl, rfl⟩) | (go_at_call 28; refine (isInf_any _ _ (by assumption) (by assumption)).mono ?_; rintro _ _ ⟨rfl, rfl⟩) | (go_at_call 40; refine (nan_any _).mono ?_; rintro _ _ ⟨rfl, rfl⟩) | (go_at_call 39; refine (infPos_any _).mono ?_; rintro _ _ ⟨rfl, rfl⟩) | (go_at_call 39; refine (infNeg_any _).mono ?_; rintro _ _ ⟨rfl, rfl⟩) | (go_at_call 46; refine (negNought_any _).mono ?_; rintro _ _ ⟨rfl, rfl⟩) | (go_at_call 43; refine (bit_any _ _).mono ?_; rintro _ _ ⟨rfl, rfl⟩) | (go_at_call 42; refine (div_any _ _ _).mono ?_; rintro _ _ ⟨rfl, n, rfl⟩) | (go_at_call 38; refine (whole_any _ _).mono ?_; rintro _ _ ⟨rfl, rfl⟩) | (go_at_call 41; refine (clamp_any _ _ _ _ (by assumption) (by assumption) (by assumption)).mono ?_; rintro _ _ ⟨rfl, rfl⟩) | (go_at_call 37; refine (awake_any _).mono ?_; rintro _ _ ⟨rfl, hb⟩))
          go_ret
          exact ⟨rfl, hb⟩
        · by_cases h2 : ecmp x lo < 0
          · have e : clampF x lo hi = lo := by unfold clampF; simp [h2]
            have e1 : ¬ 0 < ecmp lo hi := by rw [ecmp_neg]; omega
            have e2 : ¬ ecmp lo x = 0 := by rw [ecmp_neg]; omega
            go_enter Try.func11, Try.ntmps11
            go_wp2_with (first | (go_at_call 36; refine (cmp_any _ _ _ (by assumption) (by assumption)).mono ?_; rintro _ _ ⟨rfl, rfl⟩) | (go_at_call 30; refine (same_any _ _ _ (by assumption) (by assumption)).mono ?_; rintro _ _ ⟨rfl, rfl⟩) | (go_at_call 68; refine (isNaN_any _ _).mono ?_; rintro _ _ ⟨rfl, rfl⟩) | (go_at_call 28; refine (isInf_any _ _ (by assumption) (by assumption)).mono ?_; rintro _ _ ⟨rfl, rfl⟩) | (go_at_call 40; refine (nan_any _).mono ?_; rintro _ _ ⟨rfl, rfl⟩) | (go_at_call 39; refine (infPos_any _).mono ?_; rintro _ _ ⟨rfl, rfl⟩) | (go_at_call 39; refine (infNeg_any _).mono ?_; rintro _ _ ⟨rfl, rfl⟩) | (go_at_call 46; refine (negNought_any _).mono ?_; rintro _ _ ⟨rfl, rfl⟩) | (go_at_call 43; refine (bit_any _ _).mono ?_; rintro _ _ ⟨rfl, rfl⟩) | (go_at_call 42; refine (div_any _ _ _).mono ?_; rintro _ _ ⟨rfl, n, rfl⟩) | (go_at_call 38; refine (whole_any _ _).mono ?_; rintro _ _ ⟨rfl, rfl⟩) | (go_at_call 41; refine (clamp_any _ _ _ _ (by assumption) (by assumption) (by assumption)).mono ?_; rintro _ _ ⟨rfl, rfl⟩) | (go_at_call 37; refine (awake_any _).mono ?_; rintro _ _ ⟨rfl, hb⟩))
            go_ret
            exact ⟨rfl, hb⟩
          · by_cases h3 : 0 < ecmp x hi
            · have e : clampF x lo hi = hi := by unfold clampF; simp [hx, hl, hh, h1, h2, h3]
              have e1 := ecmp_self hi
              have e2 : ¬ ecmp hi x = 0 := by rw [ecmp_neg]; omega
              clear n1
              go_enter Try.func11, Try.ntmps11
              go_wp2_with (first | (go_at_call 36; refine (cmp_any _ _ _ (by assumption) (by assumption)).mono ?_; rintro _ _ ⟨rfl, rfl⟩) | (go_at_call 30; refine (same_any _ _ _ (by assumption) (by assumption)).mono ?_; rintro _ _ ⟨rfl, rfl⟩) | (go_at_call 68; refine (isNaN_any _ _).mono ?_; rintro _ _ ⟨rfl, rfl⟩) | (go_at_call 28; refine (isInf_any _ _ (by assumption) (by assumption)).mono ?_; rintro _ _ ⟨rfl, rfl⟩) | (go_at_call 40; refine (nan_any _).mono ?_; rintro _ _ ⟨rfl, rfl⟩) | (go_at_call 39; refine (infPos_any _).mono ?_; rintro _ _ ⟨rfl, rfl⟩) | (go_at_call 39; refine (infNeg_any _).mono ?_; rintro _ _ ⟨rfl, rfl⟩) | (go_at_call 46; refine (negNought_any _).mono ?_; rintro _ _ ⟨rfl, rfl⟩) | (go_at_call 43; refine (bit_any _ _).mono ?_; rintro _ _ ⟨rfl, rfl⟩) | (go_at_call 42; refine (div_any _ _ _).mono ?_; rintro _ _ ⟨rfl, n, rfl⟩) | (go_at_call 38; refine (whole_any _ _).mono ?_; rintro _ _ ⟨rfl, rfl⟩) | (go_at_call 41; refine (clamp_any _ _ _ _ (by assumption) (by assumption) (by assumption)).mono ?_; rintro _ _ ⟨rfl, rfl⟩) | (go_at_call 37; refine (awake_any _).mono ?_; rintro _ _ ⟨rfl, hb⟩))
              go_ret
              exact ⟨rfl, hb⟩
            · have e : clampF x lo hi = x := by unfold clampF; simp [hx, hl, hh, h1, h2, h3]
              have e1 := ecmp_self x
              clear n1
              go_enter Try.func11, Try.ntmps11
              go_wp2_with (first | (go_at_call 36; refine (cmp_any _ _ _ (by assumption) (by assumption)).mono ?_; rintro _ _ ⟨rfl, rfl⟩) | (go_at_call 30; refine (same_any _ _ _ (by assumption) (by assumption)).mono ?_; rintro _ _ ⟨rfl, rfl⟩) | (go_at_call 68; refine (isNaN_any _ _).mono ?_; rintro _ _ ⟨rfl, rfl⟩) | (go_at_call 28; refine (isInf_any _ _ (by assumption) (by assumption)).mono ?_; rintro _ _ ⟨rfl, rfl⟩) | (go_at_call 40; refine (nan_any _).mono ?_; rintro _ _ ⟨rfl, rfl⟩) | (go_at_call 39; refine (infPos_any _).mono ?_; rintro _ _ ⟨rfl, rfl⟩) | (go_at_call 39; refine (infNeg_any _).mono ?_; rintro _ _ ⟨rfl, rfl⟩) | (go_at_call 46; refine (negNought_any _).mono ?_; rintro _ _ ⟨rfl, rfl⟩) | (go_at_call 43; refine (bit_any _ _).mono ?_; rintro _ _ ⟨rfl, rfl⟩) | (go_at_call 42; refine (div_any _ _ _).mono ?_; rintro _ _ ⟨rfl, n, rfl⟩) | (go_at_call 38; refine (whole_any _ _).mono ?_; rintro _ _ ⟨rfl, rfl⟩) | (go_at_call 41; refine (clamp_any _ _ _ _ (by assumption) (by assumption) (by assumption)).mono ?_; rintro _ _ ⟨rfl, rfl⟩) | (go_at_call 37; refine (awake_any _).mono ?_; rintro _ _ ⟨rfl, hb⟩))
              go_ret
              exact ⟨rfl, hb⟩

@[go_sem] theorem feq_nanw (x y b : Nat) (w : World) : feq (nanw x y w) b = false := by
  unfold feq; rw [(nanw_fine x y w).2]; rfl
theorem quot_self (y : Nat) : quot y y = none ∨ quot y y = some 4607182418800017408 := by
  unfold quot
  by_cases h0 : rg y = 0
  · left; rw [if_pos h0]
  · rw [if_neg h0]
    by_cases h1 : isnan y = true
    · left; rw [fdiv_nan_left y h1]
    · have h2 := (isnan_not y).1 (by simpa using h1)
      rcases Nat.eq_or_lt_of_le h2 with h3 | h3
      · left; rw [fdiv_inf_inf h3 h3]
      · right; rw [fdiv_self h3 (Nat.pos_of_ne_zero h0)]; rfl

set_option maxHeartbeats 3200000 in
theorem edgeDivs_walk (a b : Int) (w : World) (ha : (Lit.int .u64 a).wf = true) (hb : (Lit.int .u64 b).wf = true) :
    Calls Try.prog 12 #[.int .u64 a, .int .u64 b] w fun e w' => e = .returned (.bool true) ∧ Below w.heap.size w w' := by
  obtain ⟨x, rfl, wx⟩ := wd_of_wf ha
  obtain ⟨y, rfl, wy⟩ := wd_of_wf hb
  clear ha hb
  have zy := feq_zero y
  have c0 := ecmp_self 0
  have w0 : Wd 0 := by unfold Wd; decide
  by_cases hy : rg y = 0
  · rw [decide_eq_true hy] at zy
    have hq : quot x y = none := by unfold quot; rw [if_pos hy]
    clear hy
    cases hf : fdiv x y
    all_goals
      go_enter Try.func12, Try.ntmps12
      go_wp2_with (first | (go_at_call 36; refine (cmp_any _ _ _ (by assumption) (by assumption)).mono ?_; rintro _ _ ⟨rfl, rfl⟩) | (go_at_call 30; refine (same_any _ _ _ (by assumption) (by assumption)).mono ?_; rintro _ _ ⟨rfl, rfl⟩) | (go_at_call 68; refine (isNaN_any _ _).mono ?_; rintro _ _ ⟨rfl, rfl⟩) | (go_at_call 28; refine (isInf_any _ _ (by assumption) (by assumption)).mono ?_; rintro _ _ ⟨rfl, rfl⟩) | (go_at_call 40; refine (nan_any _).mono ?_; rintro _ _ ⟨rfl, rfl⟩) | (go_at_call 39; refine (infPos_any _).mono ?_; rintro _ _ ⟨rfl, rfl⟩) | (go_at_call 39; refine (infNeg_any _).mono ?_; rintro _ _ ⟨rfl, rfl⟩) | (go_at_call 46; refine (negNought_any _).mono ?_; rintro _ _ ⟨rfl, rfl⟩) | (go_at_call 43; refine (bit_any _ _).mono ?_; rintro _ _ ⟨rfl, rfl⟩) | (go_at_call 42; refine (div_any _ _ _).mono ?_; rintro _ _ ⟨rfl, n, rfl⟩) | (go_at_call 38; refine (whole_any _ _).mono ?_; rintro _ _ ⟨rfl, rfl⟩) | (go_at_call 41; refine (clamp_any _ _ _ _ (by assumption) (by assumption) (by assumption)).mono ?_; rintro _ _ ⟨rfl, rfl⟩) | (go_at_call 37; refine (awake_any _).mono ?_; rintro _ _ ⟨rfl, hb⟩))
      go_ret
      exact ⟨rfl, ⟨hb.os, hb.tape, hb.output, hb.size, hb.block⟩⟩
  · rw [decide_eq_false hy] at zy
    cases hf : fdiv x y with
    | none =>
      have hq : quot x y = none := by unfold quot; rw [if_neg hy, hf]
      clear hy
      go_enter Try.func12, Try.ntmps12
      go_wp2_with (first | (go_at_call 36; refine (cmp_any _ _ _ (by assumption) (by assumption)).mono ?_; rintro _ _ ⟨rfl, rfl⟩) | (go_at_call 30; refine (same_any _ _ _ (by assumption) (by assumption)).mono ?_; rintro _ _ ⟨rfl, rfl⟩) | (go_at_call 68; refine (isNaN_any _ _).mono ?_; rintro _ _ ⟨rfl, rfl⟩) | (go_at_call 28; refine (isInf_any _ _ (by assumption) (by assumption)).mono ?_; rintro _ _ ⟨rfl, rfl⟩) | (go_at_call 40; refine (nan_any _).mono ?_; rintro _ _ ⟨rfl, rfl⟩) | (go_at_call 39; refine (infPos_any _).mono ?_; rintro _ _ ⟨rfl, rfl⟩) | (go_at_call 39; refine (infNeg_any _).mono ?_; rintro _ _ ⟨rfl, rfl⟩) | (go_at_call 46; refine (negNought_any _).mono ?_; rintro _ _ ⟨rfl, rfl⟩) | (go_at_call 43; refine (bit_any _ _).mono ?_; rintro _ _ ⟨rfl, rfl⟩) | (go_at_call 42; refine (div_any _ _ _).mono ?_; rintro _ _ ⟨rfl, n, rfl⟩) | (go_at_call 38; refine (whole_any _ _).mono ?_; rintro _ _ ⟨rfl, rfl⟩) | (go_at_call 41; refine (clamp_any _ _ _ _ (by assumption) (by assumption) (by assumption)).mono ?_; rintro _ _ ⟨rfl, rfl⟩) | (go_at_call 37; refine (awake_any _).mono ?_; rintro _ _ ⟨rfl, hb⟩))
      go_ret
      exact ⟨rfl, ⟨hb.os, hb.tape, hb.output, hb.size, hb.block⟩⟩
    | some q =>
      obtain ⟨wq, nq⟩ := fdiv_fine hf
      have fq : feq q q = true := by rw [feq_self, nq]; rfl
      cases hi : isinf q with
      | true =>
        have hq : quot x y = none := by unfold quot; rw [if_neg hy, hf]; simp [hi]
        clear hy
        go_enter Try.func12, Try.ntmps12
        go_wp2_with (first | (go_at_call 36; refine (cmp_any _ _ _ (by assumption) (by assumption)).mono ?_; rintro _ _ ⟨rfl, rfl⟩) | (go_at_call 30; refine (same_any _ _ _ (by assumption) (by assumption)).mono ?_; rintro _ _ ⟨rfl, rfl⟩) | (go_at_call 68; refine (isNaN_any _ _).mono ?_; rintro _ _ ⟨rfl, rfl⟩) | (go_at_call 28; refine (isInf_any _ _ (by assumption) (by assumption)).mono ?_; rintro _ _ ⟨rfl, rfl⟩) | (go_at_call 40; refine (nan_any _).mono ?_; rintro _ _ ⟨rfl, rfl⟩) | (go_at_call 39; refine (infPos_any _).mono ?_; rintro _ _ ⟨rfl, rfl⟩) | (go_at_call 39; refine (infNeg_any _).mono ?_; rintro _ _ ⟨rfl, rfl⟩) | (go_at_call 46; refine (negNought_any _).mono ?_; rintro _ _ ⟨rfl, rfl⟩) | (go_at_call 43; refine (bit_any _ _).mono ?_; rintro _ _ ⟨rfl, rfl⟩) | (go_at_call 42; refine (div_any _ _ _).mono ?_; rintro _ _ ⟨rfl, n, rfl⟩) | (go_at_call 38; refine (whole_any _ _).mono ?_; rintro _ _ ⟨rfl, rfl⟩) | (go_at_call 41; refine (clamp_any _ _ _ _ (by assumption) (by assumption) (by assumption)).mono ?_; rintro _ _ ⟨rfl, rfl⟩) | (go_at_call 37; refine (awake_any _).mono ?_; rintro _ _ ⟨rfl, hb⟩))
        go_ret
        exact ⟨rfl, ⟨hb.os, hb.tape, hb.output, hb.size, hb.block⟩⟩
      | false =>
        have hq : quot x y = some q := by unfold quot; rw [if_neg hy, hf]; simp [hi]
        have eq := ecmp_self q
        have f1 : feq 4607182418800017408 4607182418800017408 = true := by kernel_rfl
        rcases quot_self y with h1 | h1
        all_goals
          clear hy c0
          go_enter Try.func12, Try.ntmps12
          go_wp2_with (first | (go_at_call 36; refine (cmp_any _ _ _ (by assumption) (by assumption)).mono ?_; rintro _ _ ⟨rfl, rfl⟩) | (go_at_call 30; refine (same_any _ _ _ (by assumption) (by assumption)).mono ?_; rintro _ _ ⟨rfl, rfl⟩) | (go_at_call 68; refine (isNaN_any _ _).mono ?_; rintro _ _ ⟨rfl, rfl⟩) | (go_at_call 28; refine (isInf_any _ _ (by assumption) (by assumption)).mono ?_; rintro _ _ ⟨rfl, rfl⟩) | (go_at_call 40; refine (nan_any _).mono ?_; rintro _ _ ⟨rfl, rfl⟩) | (go_at_call 39; refine (infPos_any _).mono ?_; rintro _ _ ⟨rfl, rfl⟩) | (go_at_call 39; refine (infNeg_any _).mono ?_; rintro _ _ ⟨rfl, rfl⟩) | (go_at_call 46; refine (negNought_any _).mono ?_; rintro _ _ ⟨rfl, rfl⟩) | (go_at_call 43; refine (bit_any _ _).mono ?_; rintro _ _ ⟨rfl, rfl⟩) | (go_at_call 42; refine (div_any _ _ _).mono ?_; rintro _ _ ⟨rfl, n, rfl⟩) | (go_at_call 38; refine (whole_any _ _).mono ?_; rintro _ _ ⟨rfl, rfl⟩) | (go_at_call 41; refine (clamp_any _ _ _ _ (by assumption) (by assumption) (by assumption)).mono ?_; rintro _ _ ⟨rfl, rfl⟩) | (go_at_call 37; refine (awake_any _).mono ?_; rintro _ _ ⟨rfl, hb⟩))
          go_ret
          exact ⟨rfl, ⟨hb.os, hb.tape, hb.output, hb.size, hb.block⟩⟩
end Go.Proofs.Ytfhcgnkjncfeiaa
