/- Contracts: edge.Same, math.Abs, IsInf, Inf, NaN, Copysign, a law's bit. -/
import Derived.Test.YtfhcgnkjncfeiaaK
namespace Go.Proofs.Ytfhcgnkjncfeiaa
open Go.ChangeShapes Go.WideShapes Go.RowKit Fl

def isinf (x : Nat) : Bool := decide (rg x = INF)
theorem flt_max (x : Nat) (h : isnan x = false) : flt 9218868437227405311 (rg x) = isinf x := by
  have h1 := (isnan_not x).1 h
  have h2 : rg (rg x) = rg x := by unfold rg; omega
  have h3 : sg (rg x) = false := by unfold sg rg; have : x % 9223372036854775808 / 9223372036854775808 = 0 := by omega
                                    rw [this]; rfl
  have h4 : isnan (rg x) = false := by rw [isnan_not, h2]; exact h1
  rw [flt_key _ _ (by decide) h4]
  have h5 : key 9218868437227405311 = 9218868437227405311 := by decide
  rw [h5]; unfold key isinf; rw [h3, h2]; simp
  rw [INF_val] at h1 ⊢
  constructor <;> intro <;> omega
theorem nat_wrap_u64 (n : Nat) (h : n < 18446744073709551616) : IntKind.u64.wrap (n : Int) = n := by
  rw [IntKind.wrap_u64]; omega
theorem andNot_sign (x : Nat) (h : Wd x) : bits .andNot .u64 (x : Int) 9223372036854775808 = rg x := by
  have h1 : bits .andNot .u64 (x : Int) 9223372036854775808 = IntKind.u64.wrap (((BitVec.ofInt 64 (x : Int) &&& ~~~ BitVec.ofInt 64 9223372036854775808).toNat : Nat) : Int) := rfl
  rw [h1]
  have e1 : (BitVec.ofInt 64 (x : Int)).toNat = x := by
    rw [BitVec.toNat_ofInt]; unfold Wd at h
    have : (((x : Int) % ((2 ^ 64 : Nat) : Int)).toNat) = x := by
      have : ((2 ^ 64 : Nat) : Int) = 18446744073709551616 := by decide
      rw [this]; omega
    exact this
  have e2 : (~~~ BitVec.ofInt 64 9223372036854775808).toNat = 2 ^ 63 - 1 := by decide
  rw [BitVec.toNat_and, e1, e2, Nat.and_two_pow_sub_one_eq_mod]
  have : x % 2 ^ 63 = rg x := rfl
  rw [this, nat_wrap_u64]
  have := rg_lt x; omega

set_option maxHeartbeats 400000 in
theorem same_any (a b : Nat) (w : World) (wa : Wd a) (wb : Wd b) : Calls Try.prog 30 #[.float .f64 a, .float .f64 b] w fun e w' => e = .returned (.bool (decide (ecmp a b = 0))) ∧ w = w' := by
  go_enter Try.func30, Try.ntmps30
  go_wp2_with (go_at_call 36; refine (cmp_any _ _ _ (by assumption) (by assumption)).mono ?_; rintro _ _ ⟨rfl, rfl⟩)
  go_ret
  exact ⟨rfl, rfl⟩
set_option maxHeartbeats 400000 in
theorem abs_any (x : Nat) (w : World) (wx : Wd x) : Calls Try.prog 71 #[.float .f64 x] w fun e w' => e = .returned (.float .f64 (rg x)) ∧ w = w' := by
  have h := andNot_sign x wx
  go_enter Try.func71, Try.ntmps71
  go_wp2
  go_ret
  exact ⟨rfl, rfl⟩
set_option maxHeartbeats 400000 in
theorem isInf_any (x : Nat) (w : World) (wx : Wd x) (hx : isnan x = false) : Calls Try.prog 28 #[.float .f64 x, .int .i64 0] w fun e w' => e = .returned (.bool (isinf x)) ∧ w = w' := by
  have h := flt_max x hx
  go_enter Try.func28, Try.ntmps28
  go_wp2_with (go_at_call 71; refine (abs_any _ _ (by assumption)).mono ?_; rintro _ _ ⟨rfl, rfl⟩)
  go_ret
  exact ⟨rfl, rfl⟩
set_option maxHeartbeats 400000 in
theorem infPos_any (w : World) : Calls Try.prog 39 #[.int .i64 1] w fun e w' => e = .returned (.float .f64 9218868437227405312) ∧ w = w' := by
  go_enter Try.func39, Try.ntmps39
  go_wp2
  go_ret
  exact ⟨rfl, rfl⟩
set_option maxHeartbeats 400000 in
theorem infNeg_any (w : World) : Calls Try.prog 39 #[.int .i64 (-1)] w fun e w' => e = .returned (.float .f64 18442240474082181120) ∧ w = w' := by
  go_enter Try.func39, Try.ntmps39
  go_wp2
  go_ret
  exact ⟨rfl, rfl⟩
set_option maxHeartbeats 400000 in
theorem nan_any (w : World) : Calls Try.prog 40 #[] w fun e w' => e = .returned (.float .f64 9221120237041090561) ∧ w = w' := by
  go_enter Try.func40, Try.ntmps40
  go_wp2
  go_ret
  exact ⟨rfl, rfl⟩
set_option maxHeartbeats 400000 in
theorem negNought_any (w : World) : Calls Try.prog 46 #[.float .f64 0, .float .f64 13830554455654793216] w fun e w' => e = .returned (.float .f64 9223372036854775808) ∧ w = w' := by
  go_enter Try.func46, Try.ntmps46
  go_wp2
  go_ret
  exact ⟨rfl, rfl⟩
set_option maxHeartbeats 400000 in
theorem bit_any (b : Bool) (w : World) : Calls Try.prog 43 #[.bool b] w fun e w' => e = .returned (.int .i64 (if b then 1 else 0)) ∧ w = w' := by
  cases b
  all_goals
    go_enter Try.func43, Try.ntmps43
    go_wp2
    go_ret
    exact ⟨rfl, rfl⟩
end Go.Proofs.Ytfhcgnkjncfeiaa
