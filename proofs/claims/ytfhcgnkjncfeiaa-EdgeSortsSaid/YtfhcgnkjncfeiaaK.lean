/- Contracts of the comparing functions of package edge and of math's small ones. -/
import Derived.Test.YtfhcgnkjncfeiaaM
import Derived.Test.YtfhcgnkjncfeiaaFlC
namespace Go.Proofs.Ytfhcgnkjncfeiaa
open Go.ChangeShapes Go.WideShapes Go.RowKit Fl

@[go_sem] theorem call_bits (x : Nat) (w : World) : (callFunc 80 #[.float .f64 x]).run Try.prog w = .ok (.value (.int .u64 x)) w := by
  rw [run_callFunc_extern (fn := Try.f80) (e := Extern.MathFloatBits.float64bits) Try.func80 (by kernel_rfl) (by kernel_rfl) (by kernel_rfl) (by kernel_rfl)]; rfl
@[go_sem] theorem call_frombits (n : Int) (w : World) : (callFunc 35 #[.int .u64 n]).run Try.prog w = .ok (.value (.float .f64 n.toNat)) w := by
  rw [run_callFunc_extern (fn := Try.f35) (e := Extern.MathFloatBits.float64frombits) Try.func35 (by kernel_rfl) (by kernel_rfl) (by kernel_rfl) (by kernel_rfl)]; rfl
theorem call_trunc (x : Nat) (w : World) : (callFunc 88 #[.float .f64 x]).run Try.prog w = ((Extern.MathFloor.toIntegral "math.archTrunc" .zero #[.float .f64 x]).run Try.prog w).andThen fun v w' => .ok (.value v) w' :=
  run_callFunc_extern (fn := Try.f88) (e := Extern.MathFloor.toIntegral "math.archTrunc" .zero) Try.func88 (by kernel_rfl) (by kernel_rfl) (by kernel_rfl) (by kernel_rfl) _ _

theorem wrap_sign (x : Nat) (h : Wd x) : decide (wrap64 (x : Int) < 0) = sg x := by
  unfold Wd at h
  have e : wrap64 (x : Int) = if x / 9223372036854775808 = 0 then (x : Int) else (x : Int) - 18446744073709551616 := by
    unfold wrap64
    have : x / 9223372036854775808 = 0 ∨ x / 9223372036854775808 = 1 := by omega
    rcases this with h' | h' <;> simp [h'] <;> omega
  rw [e]; unfold sg
  have : x / 9223372036854775808 = 0 ∨ x / 9223372036854775808 = 1 := by omega
  rcases this with h' | h' <;> simp [h'] <;> omega
set_option maxHeartbeats 400000 in
theorem isNaN_any (x : Nat) (w : World) : Calls Try.prog 68 #[.float .f64 x] w fun e w' => e = .returned (.bool (isnan x)) ∧ w = w' := by
  have h : (!feq x x) = isnan x := by rw [feq_self]; simp
  go_enter Try.func68, Try.ntmps68
  go_wp2
  go_ret
  exact ⟨by simp, rfl⟩
set_option maxHeartbeats 400000 in
theorem cmpIsNaN_any (x : Nat) (w : World) : Calls Try.prog 87 #[.float .f64 x] w fun e w' => e = .returned (.bool (isnan x)) ∧ w = w' := by
  go_enter Try.func87, Try.ntmps87
  go_wp2
  go_ret
  exact ⟨by simp [feq_self], rfl⟩
set_option maxHeartbeats 400000 in
theorem signbit_any (x : Nat) (w : World) (hx : Wd x) : Calls Try.prog 75 #[.float .f64 x] w fun e w' => e = .returned (.bool (sg x)) ∧ w = w' := by
  have h := wrap_sign x hx
  go_enter Try.func75, Try.ntmps75
  go_wp2
  go_ret
  exact ⟨by simp, rfl⟩
set_option maxHeartbeats 400000 in
theorem rankB_any (b : Bool) (w : World) : Calls Try.prog 74 #[.bool b] w fun e w' => e = .returned (.int .i64 (if b then 1 else 0)) ∧ w = w' := by
  cases b
  all_goals
    go_enter Try.func74, Try.ntmps74
    go_wp2
    go_ret
    exact ⟨rfl, rfl⟩

theorem feq_zero (a : Nat) : feq a 0 = decide (rg a = 0) := by
  have h0 : isnan 0 = false := by decide
  have hk : key 0 = 0 := by decide
  unfold feq; rw [h0, hk]
  cases hn : isnan a
  · unfold key; cases sg a <;> simp
  · have := (isnan_iff a).1 hn
    have h2 : ¬ rg a = 0 := by have := INF_val; omega
    simp [h2]

theorem ecmp_nan (a b : Nat) (h : isnan a = true ∨ isnan b = true) : ecmp a b = (if isnan a then 1 else 0) - (if isnan b then 1 else 0) := by
  have ha := rank_nan_iff a; have hb := rank_nan_iff b
  have la := rank_bd a; have lb := rank_bd b
  unfold ecmp cmpI
  cases h1 : isnan a <;> cases h2 : isnan b <;> simp only [h1, h2] at h ha hb <;> simp at h ha hb ⊢
  · intro h; omega
  · rw [if_neg (by omega), if_pos (by omega)]
  · simp [ha, hb]
theorem ecmp_zero (a b : Nat) (ha : rg a = 0) (hb : rg b = 0) : ecmp a b = (if sg a then 0 else 1) - (if sg b then 0 else 1) := by
  have h1 : isnan a = false := (isnan_not a).2 (by rw [ha]; decide)
  have h2 : isnan b = false := (isnan_not b).2 (by rw [hb]; decide)
  unfold ecmp cmpI rank
  rw [h1, h2, ha, hb]
  cases sg a <;> cases sg b <;> decide
theorem ecmp_key (a b : Nat) (ha : isnan a = false) (hb : isnan b = false) (h : rg a ≠ 0 ∨ rg b ≠ 0) : ecmp a b = cmpI (key a) (key b) := by
  unfold ecmp cmpI rank key
  rw [ha, hb]
  cases sg a <;> cases sg b <;> simp <;> (repeat' split) <;> omega
theorem flt_key (a b : Nat) (ha : isnan a = false) (hb : isnan b = false) : flt a b = decide (key a < key b) := by
  unfold flt; rw [ha, hb]; simp

set_option maxHeartbeats 800000 in
theorem compare_any (a b : Nat) (w : World) (ha : isnan a = false) (hb : isnan b = false) : Calls Try.prog 76 #[.float .f64 a, .float .f64 b] w fun e w' => e = .returned (.int .i64 (cmpI (key a) (key b))) ∧ w = w' := by
  have h1 := flt_key a b ha hb
  have h2 := flt_key b a hb ha
  unfold cmpI
  by_cases c1 : key a < key b
  · rw [decide_eq_true c1] at h1
    rw [if_pos c1]
    clear h2
    go_enter Try.func76, Try.ntmps76
    go_wp2_with (go_at_call 87; refine (cmpIsNaN_any _ _).mono ?_; rintro _ _ ⟨rfl, rfl⟩)
    go_ret
    exact ⟨rfl, rfl⟩
  · rw [decide_eq_false c1] at h1
    rw [if_neg c1]
    by_cases c2 : key b < key a
    · rw [decide_eq_true c2] at h2
      rw [if_pos c2]
      go_enter Try.func76, Try.ntmps76
      go_wp2_with (go_at_call 87; refine (cmpIsNaN_any _ _).mono ?_; rintro _ _ ⟨rfl, rfl⟩)
      go_ret
      exact ⟨rfl, rfl⟩
    · rw [decide_eq_false c2] at h2
      rw [if_neg c2]
      go_enter Try.func76, Try.ntmps76
      go_wp2_with (go_at_call 87; refine (cmpIsNaN_any _ _).mono ?_; rintro _ _ ⟨rfl, rfl⟩)
      go_ret
      exact ⟨rfl, rfl⟩


set_option maxHeartbeats 1600000 in
theorem cmp_any (a b : Nat) (w : World) (wa : Wd a) (wb : Wd b) : Calls Try.prog 36 #[.float .f64 a, .float .f64 b] w fun e w' => e = .returned (.int .i64 (ecmp a b)) ∧ w = w' := by
  have za := feq_zero a
  have zb := feq_zero b
  cases ha : isnan a with
  | true =>
    rw [ecmp_nan a b (Or.inl ha), ha]
    clear za zb
    cases hb : isnan b
    all_goals
      go_enter Try.func36, Try.ntmps36
      go_wp2_with (first | (go_at_call 68; refine (isNaN_any _ _).mono ?_; rintro _ _ ⟨rfl, rfl⟩) | (go_at_call 74; refine (rankB_any _ _).mono ?_; rintro _ _ ⟨rfl, rfl⟩) | (go_at_call 75; refine (signbit_any _ _ (by assumption)).mono ?_; rintro _ _ ⟨rfl, rfl⟩) | (go_at_call 76; refine (compare_any _ _ _ (by assumption) (by assumption)).mono ?_; rintro _ _ ⟨rfl, rfl⟩))
      go_ret
      exact ⟨rfl, rfl⟩
  | false =>
    cases hb : isnan b with
    | true =>
      rw [ecmp_nan a b (Or.inr hb), ha, hb]
      clear za zb
      go_enter Try.func36, Try.ntmps36
      go_wp2_with (first | (go_at_call 68; refine (isNaN_any _ _).mono ?_; rintro _ _ ⟨rfl, rfl⟩) | (go_at_call 74; refine (rankB_any _ _).mono ?_; rintro _ _ ⟨rfl, rfl⟩) | (go_at_call 75; refine (signbit_any _ _ (by assumption)).mono ?_; rintro _ _ ⟨rfl, rfl⟩) | (go_at_call 76; refine (compare_any _ _ _ (by assumption) (by assumption)).mono ?_; rintro _ _ ⟨rfl, rfl⟩))
      go_ret
      exact ⟨rfl, rfl⟩
    | false =>
      by_cases ra : rg a = 0
      · rw [decide_eq_true ra] at za
        by_cases rb : rg b = 0
        · rw [decide_eq_true rb] at zb
          rw [ecmp_zero a b ra rb]
          clear ra rb
          cases sa : sg a <;> cases sb : sg b
          all_goals
            go_enter Try.func36, Try.ntmps36
            go_wp2_with (first | (go_at_call 68; refine (isNaN_any _ _).mono ?_; rintro _ _ ⟨rfl, rfl⟩) | (go_at_call 74; refine (rankB_any _ _).mono ?_; rintro _ _ ⟨rfl, rfl⟩) | (go_at_call 75; refine (signbit_any _ _ (by assumption)).mono ?_; rintro _ _ ⟨rfl, rfl⟩) | (go_at_call 76; refine (compare_any _ _ _ (by assumption) (by assumption)).mono ?_; rintro _ _ ⟨rfl, rfl⟩))
            go_ret
            exact ⟨rfl, rfl⟩
        · rw [decide_eq_false rb] at zb
          rw [ecmp_key a b ha hb (Or.inr rb)]
          clear ra rb
          go_enter Try.func36, Try.ntmps36
          go_wp2_with (first | (go_at_call 68; refine (isNaN_any _ _).mono ?_; rintro _ _ ⟨rfl, rfl⟩) | (go_at_call 74; refine (rankB_any _ _).mono ?_; rintro _ _ ⟨rfl, rfl⟩) | (go_at_call 75; refine (signbit_any _ _ (by assumption)).mono ?_; rintro _ _ ⟨rfl, rfl⟩) | (go_at_call 76; refine (compare_any _ _ _ (by assumption) (by assumption)).mono ?_; rintro _ _ ⟨rfl, rfl⟩))
          go_ret
          exact ⟨rfl, rfl⟩
      · rw [decide_eq_false ra] at za
        rw [ecmp_key a b ha hb (Or.inl ra)]
        clear ra zb
        go_enter Try.func36, Try.ntmps36
        go_wp2_with (first | (go_at_call 68; refine (isNaN_any _ _).mono ?_; rintro _ _ ⟨rfl, rfl⟩) | (go_at_call 74; refine (rankB_any _ _).mono ?_; rintro _ _ ⟨rfl, rfl⟩) | (go_at_call 75; refine (signbit_any _ _ (by assumption)).mono ?_; rintro _ _ ⟨rfl, rfl⟩) | (go_at_call 76; refine (compare_any _ _ _ (by assumption) (by assumption)).mono ?_; rintro _ _ ⟨rfl, rfl⟩))
        go_ret
        exact ⟨rfl, rfl⟩
end Go.Proofs.Ytfhcgnkjncfeiaa
