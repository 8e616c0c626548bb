/- Plain facts on 64-bit floats as words: comparisons, the rank in the one order, the sign bit, the absolute value, a turned sign. -/
import Derived.Test.YtfhcgnkjncfeiaaFlB
import Derived.WalkLawsBesides
import Derived.WalkKit
namespace Go.Proofs.Ytfhcgnkjncfeiaa.Fl
open Ieee

/-- a word of 64 bits -/
def Wd (x : Nat) : Prop := x < 18446744073709551616
/-- 'x < y', no NaN among them -/
def flt (x y : Nat) : Bool := !isnan x && !isnan y && decide (key x < key y)
/-- 'x == y', no NaN among them -/
def feq (x y : Nat) : Bool := !isnan x && !isnan y && decide (key x = key y)

theorem isnan_iff (x : Nat) : isnan x = true ↔ INF < rg x := by simp [isnan]
theorem isnan_not (x : Nat) : isnan x = false ↔ rg x ≤ INF := by simp [isnan]

theorem order_any (x y : Nat) : Ieee.double.order x y = if isnan x || isnan y then none else some (compare (key x) (key y)) := by
  cases hx : isnan x
  · cases hy : isnan y
    · rw [order_eq ((isnan_not x).1 hx) ((isnan_not y).1 hy)]; rfl
    · rw [order_nan_right x ((isnan_iff y).1 hy)]; rfl
  · rw [order_nan_left y ((isnan_iff x).1 hx)]; rfl

theorem cmp_lt (a b : Int) : (some (compare a b) == some Ordering.lt) = decide (a < b) := by
  show (some (compareOfLessAndEq a b) == some Ordering.lt) = _
  unfold compareOfLessAndEq
  by_cases h : a < b
  · simp [h]
  · by_cases h2 : a = b <;> simp [h, h2]
theorem cmp_eq (a b : Int) : (some (compare a b) == some Ordering.eq) = decide (a = b) := by
  show (some (compareOfLessAndEq a b) == some Ordering.eq) = _
  unfold compareOfLessAndEq
  by_cases h : a < b
  · have : ¬ a = b := by omega
    simp [h, this]
  · by_cases h2 : a = b <;> simp [h2]
    simp [h]
theorem cmp_gt (a b : Int) : (some (compare a b) == some Ordering.gt) = decide (b < a) := by
  show (some (compareOfLessAndEq a b) == some Ordering.gt) = _
  unfold compareOfLessAndEq
  by_cases h : a < b
  · have : ¬ b < a := by omega
    simp [h, this]
  · by_cases h2 : a = b
    · have : ¬ b < a := by omega
      simp [h2]
    · have : b < a := by omega
      simp [h, h2, this]

theorem order_lt (x y : Nat) : (Ieee.double.order x y == some .lt) = flt x y := by
  rw [order_any]; unfold flt
  cases isnan x <;> cases isnan y <;> simp only [Bool.or_true, Bool.true_or, Bool.or_false, if_true, Bool.not_true, Bool.not_false, Bool.false_and, Bool.and_false, Bool.true_and, Bool.false_eq_true, if_false] <;> first | rfl | exact cmp_lt _ _
theorem order_eql (x y : Nat) : (Ieee.double.order x y == some .eq) = feq x y := by
  rw [order_any]; unfold feq
  cases isnan x <;> cases isnan y <;> simp only [Bool.or_true, Bool.true_or, Bool.or_false, if_true, Bool.not_true, Bool.not_false, Bool.false_and, Bool.and_false, Bool.true_and, Bool.false_eq_true, if_false] <;> first | rfl | exact cmp_eq _ _
theorem order_gt (x y : Nat) : (Ieee.double.order x y == some .gt) = flt y x := by
  rw [order_any]; unfold flt
  cases isnan x <;> cases isnan y <;> simp only [Bool.or_true, Bool.true_or, Bool.or_false, if_true, Bool.not_true, Bool.not_false, Bool.false_and, Bool.and_false, Bool.true_and, Bool.false_eq_true, if_false] <;> first | rfl | exact cmp_gt _ _
theorem order_neq (x y : Nat) : (Ieee.double.order x y != some .eq) = !feq x y := by
  rw [← order_eql]; rfl

section
open Go
/-! ### the walk's own spelling -/
@[go_sem high] theorem flt_lss (t : TypeId) (a b : Nat) : binOp .lss t (.float .f64 a) (.float .f64 b) = pure (.bool (flt a b)) := by
  rw [binOp_float_cmp_lss]; exact congrArg (fun z => pure (Value.bool z)) (order_lt a b)
@[go_sem high] theorem flt_gtr (t : TypeId) (a b : Nat) : binOp .gtr t (.float .f64 a) (.float .f64 b) = pure (.bool (flt b a)) := by
  rw [binOp_float_cmp_gtr]; exact congrArg (fun z => pure (Value.bool z)) (order_gt a b)
@[go_sem high] theorem flt_eql (t : TypeId) (a b : Nat) : binOp .eql t (.float .f64 a) (.float .f64 b) = pure (.bool (feq a b)) := by
  rw [binOp_float_cmp_eql]; exact congrArg (fun z => pure (Value.bool z)) (order_eql a b)
@[go_sem high] theorem flt_neq (t : TypeId) (a b : Nat) : binOp .neq t (.float .f64 a) (.float .f64 b) = pure (.bool (!feq a b)) := by
  rw [binOp_float_cmp_neq]; exact congrArg (fun z => pure (Value.bool z)) (order_neq a b)
@[go_sem high] theorem flt_leq (t : TypeId) (a b : Nat) : binOp .leq t (.float .f64 a) (.float .f64 b) = pure (.bool (flt a b || feq a b)) := by
  rw [binOp_float_cmp_leq]; exact congrArg (fun z => pure (Value.bool z)) (by rw [← order_lt, ← order_eql]; rfl)
@[go_sem high] theorem flt_geq (t : TypeId) (a b : Nat) : binOp .geq t (.float .f64 a) (.float .f64 b) = pure (.bool (flt b a || feq a b)) := by
  rw [binOp_float_cmp_geq]; exact congrArg (fun z => pure (Value.bool z)) (by rw [← order_gt, ← order_eql]; rfl)
end

theorem feq_self (x : Nat) : feq x x = !isnan x := by unfold feq; cases isnan x <;> simp
theorem feq_comm (x y : Nat) : feq x y = feq y x := by
  unfold feq; rw [show decide (key x = key y) = decide (key y = key x) from by simp [eq_comm]]; cases isnan x <;> cases isnan y <;> rfl

/-- the place in the one order: no numbers last -/
def rank (x : Nat) : Int := if isnan x then 9223372036854775807 else if sg x then -1 - (rg x : Int) else rg x
/-- -1, 0, 1 -/
def cmpI (a b : Int) : Int := if a < b then -1 else if b < a then 1 else 0
/-- the one order's comparison -/
def ecmp (a b : Nat) : Int := cmpI (rank a) (rank b)

theorem INF_val : INF = 9218868437227405312 := rfl
theorem rank_bd (x : Nat) : -9218868437227405313 ≤ rank x ∧ rank x ≤ 9223372036854775807 := by
  have h := rg_lt x
  have h2 : isnan x = false → rg x ≤ INF := (isnan_not x).1
  rw [INF_val] at h2
  unfold rank
  cases h3 : isnan x <;> cases sg x <;> simp <;> have := h2 <;> simp [h3] at this <;> omega
theorem rank_nan_iff (x : Nat) : rank x = 9223372036854775807 ↔ isnan x = true := by
  have h2 : isnan x = false → rg x ≤ INF := (isnan_not x).1
  rw [INF_val] at h2
  unfold rank
  cases h3 : isnan x <;> cases sg x <;> simp <;> have := h2 <;> simp [h3] at this <;> omega
theorem ecmp_bd (a b : Nat) : -1 ≤ ecmp a b ∧ ecmp a b ≤ 1 := by unfold ecmp cmpI; split <;> (try split) <;> omega
theorem ecmp_self (a : Nat) : ecmp a a = 0 := by unfold ecmp cmpI; simp
theorem ecmp_neg (a b : Nat) : ecmp a b = -ecmp b a := by unfold ecmp cmpI; split <;> split <;> (try split) <;> omega
theorem ecmp_lt_iff (a b : Nat) : ecmp a b < 0 ↔ rank a < rank b := by unfold ecmp cmpI; split <;> (try split) <;> omega
theorem ecmp_gt_iff (a b : Nat) : 0 < ecmp a b ↔ rank b < rank a := by unfold ecmp cmpI; split <;> (try split) <;> omega
theorem ecmp_eq_iff (a b : Nat) : ecmp a b = 0 ↔ rank a = rank b := by unfold ecmp cmpI; split <;> (try split) <;> omega
theorem ecmp_le_iff (a b : Nat) : ecmp a b ≤ 0 ↔ rank a ≤ rank b := by unfold ecmp cmpI; split <;> (try split) <;> omega

/-- a word out of its sign and its rung -/
theorem word_split {x : Nat} (h : Wd x) : x = (if sg x then 9223372036854775808 else 0) + rg x := by
  unfold Wd at h
  unfold sg rg
  have : x / 9223372036854775808 = 0 ∨ x / 9223372036854775808 = 1 := by omega
  rcases this with h' | h' <;> rw [h'] <;> simp <;> omega
theorem word_ext {x y : Nat} (hx : Wd x) (hy : Wd y) (h1 : sg x = sg y) (h2 : rg x = rg y) : x = y := by
  rw [word_split hx, word_split hy, h1, h2]
/-- two numbers of one rank are one word -/
theorem rank_inj {x y : Nat} (hx : Wd x) (hy : Wd y) (h : rank x = rank y) : x = y ∨ (isnan x = true ∧ isnan y = true) := by
  by_cases hn : isnan x = true
  · right; exact ⟨hn, (rank_nan_iff y).1 (h ▸ (rank_nan_iff x).2 hn)⟩
  · left
    have hny : ¬ isnan y = true := fun e => hn ((rank_nan_iff x).1 (h.trans ((rank_nan_iff y).2 e)))
    unfold rank at h
    rw [if_neg hn, if_neg hny] at h
    refine word_ext hx hy ?_ ?_ <;> revert h <;> cases sg x <;> cases sg y <;> simp <;> omega

theorem key_rank {x y : Nat} (hx : isnan x = false) (hy : isnan y = false) (h : key x < key y) : rank x < rank y := by
  unfold key at h; unfold rank
  rw [hx, hy]
  revert h
  cases sg x <;> cases sg y <;> simp <;> omega

/-! ### the sign bit -/
section
open Go
theorem and_sign (x : Nat) (h : Wd x) : bits .and .u64 (x : Int) 9223372036854775808 = if sg x then 9223372036854775808 else 0 := by
  show IntKind.u64.wrap (((BitVec.ofInt 64 (x : Int) &&& BitVec.ofInt 64 9223372036854775808).toNat : Nat) : Int) = _
  have e1 : (BitVec.ofInt 64 (x : Int)).toNat = x := by
    rw [BitVec.toNat_ofInt]; unfold Wd at h
    have : (((x : Int) % ((2 ^ 64 : Nat) : Int)).toNat) = x := by
      have : ((2 ^ 64 : Nat) : Int) = 18446744073709551616 := by decide
      rw [this]; omega
    exact this
  have e2 : (BitVec.ofInt 64 9223372036854775808).toNat = 2 ^ 63 := by decide
  rw [BitVec.toNat_and, e1, e2, nat_bit]
  have : (2 : Nat) ^ 63 = 9223372036854775808 := by decide
  rw [this]
  unfold Wd at h
  unfold sg
  have : x / 9223372036854775808 = 0 ∨ x / 9223372036854775808 = 1 := by omega
  rcases this with h' | h' <;> rw [h'] <;> decide
end
end Go.Proofs.Ytfhcgnkjncfeiaa.Fl
