/- Contracts of package mean: Of, Variance, Ratio, Uneven. -/
import Derived.Test.YtfhcgnkjncfeiaaMa
import Derived.Test.YtfhcgnkjncfeiaaFlG
namespace Go.Proofs.Ytfhcgnkjncfeiaa
open Go.ChangeShapes Go.WideShapes Go.RowKit Fl

def NANW : Nat := 9221120237041090561
/-- can these be told? -/
def okN (n : Nat) : Bool := decide (1 ≤ n) && decide (n ≤ 200)
/-- the spread's numerator -/
def vN (f : Nat → Int) (n : Nat) : Int := n * hq f n - hs f n * hs f n
/-- the squares of what lies between -/
def dS (f : Nat → Int) (y : Int) : Nat → Int
  | 0 => 0
  | k + 1 => dS f y k + (heldI (f k) - y) * (heldI (f k) - y)
theorem dS_nonneg (f : Nat → Int) (y : Int) (k : Nat) : 0 ≤ dS f y k := by
  induction k with
  | zero => simp [dS]
  | succ k ih =>
    have : 0 ≤ (heldI (f k) - y) * (heldI (f k) - y) := by
      rcases Int.le_total 0 (heldI (f k) - y) with h | h
      · exact Int.mul_nonneg h h
      · exact Int.mul_nonneg_of_nonpos_of_nonpos h h
    simp only [dS]; omega
theorem dS_eq (f : Nat → Int) (y : Int) (k : Nat) : dS f y k = hq f k - 2 * y * hs f k + k * (y * y) := by
  induction k with
  | zero => simp [dS, hq, hs]
  | succ k ih =>
    simp only [dS, hq, hs, ih]
    have e : (heldI (f k) - y) * (heldI (f k) - y) = heldI (f k) * heldI (f k) - 2 * y * heldI (f k) + y * y := by
      rw [Int.sub_mul, Int.mul_sub, Int.mul_sub, Int.mul_comm (heldI (f k)) y, Int.mul_assoc 2 y]; omega
    rw [e, Int.mul_add]
    have e2 : ((k + 1 : Nat) : Int) * (y * y) = k * (y * y) + y * y := by rw [Int.natCast_add, Int.add_mul]; simp
    rw [e2]; omega
theorem vN_succ (f : Nat → Int) (k : Nat) : vN f (k + 1) = vN f k + dS f (heldI (f k)) k := by
  rw [dS_eq]
  unfold vN
  simp only [hq, hs]
  generalize heldI (f k) = y
  generalize hs f k = s
  generalize hq f k = q
  have e1 : ((k + 1 : Nat) : Int) * (q + y * y) = k * q + k * (y * y) + q + y * y := by
    rw [Int.natCast_add, Int.add_mul, Int.mul_add]; simp; omega
  have e2 : (s + y) * (s + y) = s * s + 2 * y * s + y * y := by
    rw [Int.add_mul, Int.mul_add, Int.mul_add, Int.mul_comm s y, Int.mul_assoc 2 y]; omega
  rw [e1, e2]; omega
theorem vN_nonneg (f : Nat → Int) (k : Nat) : 0 ≤ vN f k := by
  induction k with
  | zero => simp [vN, hq, hs]
  | succ k ih => rw [vN_succ]; have := dS_nonneg f (heldI (f k)) k; omega
theorem vN_bd (f : Nat → Int) (n : Nat) (hn : n ≤ 200) : 0 ≤ vN f n ∧ vN f n ≤ 40000000000000000 := by
  refine ⟨vN_nonneg f n, ?_⟩
  have h1 := hq_bd f n
  have h2 : 0 ≤ hs f n * hs f n := Int.mul_nonneg (hs_bd f n).1 (hs_bd f n).1
  have h3 : (n : Int) * hq f n ≤ 200 * 200000000000000 := Int.mul_le_mul (by omega) (by omega) h1.1 (by decide)
  unfold vN; omega
/-- the mean -/
def meanF (f : Nat → Int) (n : Nat) : Nat := if okN n then quoW (hs f n) n else NANW
/-- the variance -/
def varF (f : Nat → Int) (n : Nat) : Nat := if okN n then quoW (vN f n) (n * n) else NANW

theorem quoW_some (a b : Int) (ha : 0 ≤ a ∧ a ≤ 9223372036854775808) (hb : 1 ≤ b ∧ b ≤ 9007199254740992) : fdiv (flInt a) (flInt b) = some (quoW a b) := by
  obtain ⟨_, _, _, _, _, _, _, h1, h2⟩ := quoW_rnd a b ha hb
  rw [h1, h2]
theorem quoW_fine (a b : Int) (ha : 0 ≤ a ∧ a ≤ 9223372036854775808) (hb : 1 ≤ b ∧ b ≤ 9007199254740992) : quoW a b < INF ∧ Wd (quoW a b) ∧ isnan (quoW a b) = false ∧ sg (quoW a b) = false ∧ rg (quoW a b) = quoW a b ∧ isinf (quoW a b) = false := by
  obtain ⟨_, q, _, _, _, _, hq, _, h2⟩ := quoW_rnd a b ha hb
  rw [h2]
  obtain ⟨p1, p2, p3, p4⟩ := plain_fine hq
  refine ⟨hq, p1, p2, p3, p4, ?_⟩
  unfold isinf; rw [p4]; exact decide_eq_false (by omega)

set_option maxHeartbeats 1600000 in
theorem mean_any (f : Nat → Int) (b off n cap : Nat) (w : World) (hc : IntsAt w b off n f) (hn : n ≤ cap) (hn2 : cap ≤ 9223372036854775807) :
    Calls Try.prog 24 #[.slice (some ⟨b, off, none⟩) n cap] w fun e w' => e = .returned (.float .f64 (meanF f n)) ∧ w = w' := by
  have S := Lib.hid (sums_any f b off n cap w hc hn hn2)
  unfold meanF okN
  cases hok : (decide (1 ≤ n) && decide (n ≤ 200)) with
  | true =>
    simp only [Bool.and_eq_true, decide_eq_true_eq] at hok
    have hmn : min n 200 = n := by omega
    have hb := hs_bd f n
    have hq3 := quoW_some (hs f n) n (by omega) (by omega)
    have hf1 : floatOfInt .f64 (hs f n) = flInt (hs f n) := rfl
    have hf2 : floatOfInt .f64 (n : Int) = flInt n := rfl
    have hok' : (decide (1 ≤ n) && decide (n ≤ 200)) = true := by simp [hok]
    clear hb hok hc
    go_enter Try.func24, Try.ntmps24
    go_wp2_with (go_at_call 67; refine S.out.mono ?_; rintro _ _ ⟨rfl, rfl⟩)
    go_ret
    exact ⟨rfl, rfl⟩
  | false =>
    clear hc
    go_enter Try.func24, Try.ntmps24
    go_wp2_with (first | (go_at_call 67; refine S.out.mono ?_; rintro _ _ ⟨rfl, rfl⟩) | (go_at_call 36; refine (cmp_any _ _ _ (by assumption) (by assumption)).mono ?_; rintro _ _ ⟨rfl, rfl⟩) | (go_at_call 30; refine (same_any _ _ _ (by assumption) (by assumption)).mono ?_; rintro _ _ ⟨rfl, rfl⟩) | (go_at_call 68; refine (isNaN_any _ _).mono ?_; rintro _ _ ⟨rfl, rfl⟩) | (go_at_call 28; refine (isInf_any _ _ (by assumption) (by assumption)).mono ?_; rintro _ _ ⟨rfl, rfl⟩) | (go_at_call 40; refine (nan_any _).mono ?_; rintro _ _ ⟨rfl, rfl⟩) | (go_at_call 39; refine (infPos_any _).mono ?_; rintro _ _ ⟨rfl, rfl⟩) | (go_at_call 39; refine (infNeg_any _).mono ?_; rintro _ _ ⟨rfl, rfl⟩) | (go_at_call 46; refine (negNought_any _).mono ?_; rintro _ _ ⟨rfl, rfl⟩) | (go_at_call 43; refine (bit_any _ _).mono ?_; rintro _ _ ⟨rfl, rfl⟩))
    go_ret
    exact ⟨rfl, rfl⟩

theorem nn_bd (n : Nat) (h : 1 ≤ n ∧ n ≤ 200) : 1 ≤ (n : Int) * n ∧ (n : Int) * n ≤ 40000 :=
  ⟨Int.le_trans (by decide : (1 : Int) ≤ 1 * 1) (Int.mul_le_mul (by omega) (by omega) (by decide) (by omega)), Int.le_trans (Int.mul_le_mul (by omega : (n : Int) ≤ 200) (by omega : (n : Int) ≤ 200) (by omega) (by decide)) (by decide)⟩
set_option maxHeartbeats 1600000 in
theorem var_any (f : Nat → Int) (b off n cap : Nat) (w : World) (hc : IntsAt w b off n f) (hn : n ≤ cap) (hn2 : cap ≤ 9223372036854775807) :
    Calls Try.prog 25 #[.slice (some ⟨b, off, none⟩) n cap] w fun e w' => e = .returned (.float .f64 (varF f n)) ∧ w = w' := by
  have S := Lib.hid (sums_any f b off n cap w hc hn hn2)
  unfold varF okN
  cases hok : (decide (1 ≤ n) && decide (n ≤ 200)) with
  | true =>
    simp only [Bool.and_eq_true, decide_eq_true_eq] at hok
    have hmn : min n 200 = n := by omega
    have hb := vN_bd f n hok.2
    have hnn := nn_bd n hok
    have hq3 := quoW_some (vN f n) (n * n) (by omega) (by omega)
    have hf1 : floatOfInt .f64 (vN f n) = flInt (vN f n) := rfl
    have hf2 : floatOfInt .f64 ((n : Int) * n) = flInt ((n : Int) * n) := rfl
    have hok' : (decide (1 ≤ n) && decide (n ≤ 200)) = true := by simp [hok]
    have h1 := hq_bd f n
    have h3 : 0 ≤ (n : Int) * hq f n ∧ (n : Int) * hq f n ≤ 200 * 200000000000000 := ⟨Int.mul_nonneg (by omega) h1.1, Int.mul_le_mul (by omega) (by omega) h1.1 (by decide)⟩
    have h4 := hs_bd f n
    have h5 : 0 ≤ hs f n * hs f n ∧ hs f n * hs f n ≤ 200000000 * 200000000 := ⟨Int.mul_nonneg h4.1 h4.1, Int.mul_le_mul (by omega) (by omega) h4.1 (by decide)⟩
    have w1 : IntKind.i64.wrap ((n : Int) * hq f n) = n * hq f n := by rw [IntKind.wrap_i64]; omega
    have w2 : IntKind.i64.wrap (hs f n * hs f n) = hs f n * hs f n := by rw [IntKind.wrap_i64]; omega
    have w3 : IntKind.i64.wrap (n * hq f n - hs f n * hs f n) = vN f n := by
      have : n * hq f n - hs f n * hs f n = vN f n := rfl
      rw [this, IntKind.wrap_i64]; omega
    have w4 : IntKind.i64.wrap ((n : Int) * n) = (n : Int) * n := by rw [IntKind.wrap_i64]; omega
    clear hb hok hc h1 h3 h4 h5 hnn
    go_enter Try.func25, Try.ntmps25
    go_wp2_with (go_at_call 67; refine S.out.mono ?_; rintro _ _ ⟨rfl, rfl⟩)
    go_ret
    exact ⟨rfl, rfl⟩
  | false =>
    clear hc
    go_enter Try.func25, Try.ntmps25
    go_wp2_with (first | (go_at_call 67; refine S.out.mono ?_; rintro _ _ ⟨rfl, rfl⟩) | (go_at_call 36; refine (cmp_any _ _ _ (by assumption) (by assumption)).mono ?_; rintro _ _ ⟨rfl, rfl⟩) | (go_at_call 30; refine (same_any _ _ _ (by assumption) (by assumption)).mono ?_; rintro _ _ ⟨rfl, rfl⟩) | (go_at_call 68; refine (isNaN_any _ _).mono ?_; rintro _ _ ⟨rfl, rfl⟩) | (go_at_call 28; refine (isInf_any _ _ (by assumption) (by assumption)).mono ?_; rintro _ _ ⟨rfl, rfl⟩) | (go_at_call 40; refine (nan_any _).mono ?_; rintro _ _ ⟨rfl, rfl⟩) | (go_at_call 39; refine (infPos_any _).mono ?_; rintro _ _ ⟨rfl, rfl⟩) | (go_at_call 39; refine (infNeg_any _).mono ?_; rintro _ _ ⟨rfl, rfl⟩) | (go_at_call 46; refine (negNought_any _).mono ?_; rintro _ _ ⟨rfl, rfl⟩) | (go_at_call 43; refine (bit_any _ _).mono ?_; rintro _ _ ⟨rfl, rfl⟩))
    go_ret
    exact ⟨rfl, rfl⟩
set_option maxHeartbeats 400000 in
theorem mean_none (ao : Option Addr) (cap : Nat) (w : World) : Calls Try.prog 24 #[.slice ao 0 cap] w fun e w' => e = .returned (.float .f64 NANW) ∧ w = w' := by
  have S := Lib.hid (sums_none ao cap w)
  go_enter Try.func24, Try.ntmps24
  go_wp2_with (first | (go_at_call 67; refine S.out.mono ?_; rintro _ _ ⟨rfl, rfl⟩) | (go_at_call 36; refine (cmp_any _ _ _ (by assumption) (by assumption)).mono ?_; rintro _ _ ⟨rfl, rfl⟩) | (go_at_call 30; refine (same_any _ _ _ (by assumption) (by assumption)).mono ?_; rintro _ _ ⟨rfl, rfl⟩) | (go_at_call 68; refine (isNaN_any _ _).mono ?_; rintro _ _ ⟨rfl, rfl⟩) | (go_at_call 28; refine (isInf_any _ _ (by assumption) (by assumption)).mono ?_; rintro _ _ ⟨rfl, rfl⟩) | (go_at_call 40; refine (nan_any _).mono ?_; rintro _ _ ⟨rfl, rfl⟩) | (go_at_call 39; refine (infPos_any _).mono ?_; rintro _ _ ⟨rfl, rfl⟩) | (go_at_call 39; refine (infNeg_any _).mono ?_; rintro _ _ ⟨rfl, rfl⟩) | (go_at_call 46; refine (negNought_any _).mono ?_; rintro _ _ ⟨rfl, rfl⟩) | (go_at_call 43; refine (bit_any _ _).mono ?_; rintro _ _ ⟨rfl, rfl⟩))
  go_ret
  exact ⟨rfl, rfl⟩
set_option maxHeartbeats 400000 in
theorem var_none (ao : Option Addr) (cap : Nat) (w : World) : Calls Try.prog 25 #[.slice ao 0 cap] w fun e w' => e = .returned (.float .f64 NANW) ∧ w = w' := by
  have S := Lib.hid (sums_none ao cap w)
  go_enter Try.func25, Try.ntmps25
  go_wp2_with (first | (go_at_call 67; refine S.out.mono ?_; rintro _ _ ⟨rfl, rfl⟩) | (go_at_call 36; refine (cmp_any _ _ _ (by assumption) (by assumption)).mono ?_; rintro _ _ ⟨rfl, rfl⟩) | (go_at_call 30; refine (same_any _ _ _ (by assumption) (by assumption)).mono ?_; rintro _ _ ⟨rfl, rfl⟩) | (go_at_call 68; refine (isNaN_any _ _).mono ?_; rintro _ _ ⟨rfl, rfl⟩) | (go_at_call 28; refine (isInf_any _ _ (by assumption) (by assumption)).mono ?_; rintro _ _ ⟨rfl, rfl⟩) | (go_at_call 40; refine (nan_any _).mono ?_; rintro _ _ ⟨rfl, rfl⟩) | (go_at_call 39; refine (infPos_any _).mono ?_; rintro _ _ ⟨rfl, rfl⟩) | (go_at_call 39; refine (infNeg_any _).mono ?_; rintro _ _ ⟨rfl, rfl⟩) | (go_at_call 46; refine (negNought_any _).mono ?_; rintro _ _ ⟨rfl, rfl⟩) | (go_at_call 43; refine (bit_any _ _).mono ?_; rintro _ _ ⟨rfl, rfl⟩))
  go_ret
  exact ⟨rfl, rfl⟩

/-! ### a part of a whole -/
/-- a part of a whole -/
def ratioF (p q : Int) : Nat := match quot (flInt (heldI p)) (flInt (heldI q)) with
  | some x => x
  | none => if heldI p = 0 then NANW else 9218868437227405312
set_option maxHeartbeats 1600000 in
theorem ratio_any (p q : Int) (w : World) : Calls Try.prog 27 #[.int .i64 p, .int .i64 q] w fun e w' => e = .returned (.float .f64 (ratioF p q)) ∧ ∃ n, w' = w.drewN n := by
  have hf1 : floatOfInt .f64 (heldI p) = flInt (heldI p) := rfl
  have hf2 : floatOfInt .f64 (heldI q) = flInt (heldI q) := rfl
  unfold ratioF
  cases hq : quot (flInt (heldI p)) (flInt (heldI q)) with
  | some x =>
    go_enter Try.func27, Try.ntmps27
    go_wp2_with (first | (go_at_call 69; refine (held_any _ _).mono ?_; rintro _ _ ⟨rfl, rfl⟩) | (go_at_call 36; refine (cmp_any _ _ _ (by assumption) (by assumption)).mono ?_; rintro _ _ ⟨rfl, rfl⟩) | (go_at_call 30; refine (same_any _ _ _ (by assumption) (by assumption)).mono ?_; rintro _ _ ⟨rfl, rfl⟩) | (go_at_call 68; refine (isNaN_any _ _).mono ?_; rintro _ _ ⟨rfl, rfl⟩) | (go_at_call 28; refine (isInf_any _ _ (by assumption) (by assumption)).mono ?_; rintro _ _ ⟨rfl, rfl⟩) | (go_at_call 40; refine (nan_any _).mono ?_; rintro _ _ ⟨rfl, rfl⟩) | (go_at_call 39; refine (infPos_any _).mono ?_; rintro _ _ ⟨rfl, rfl⟩) | (go_at_call 39; refine (infNeg_any _).mono ?_; rintro _ _ ⟨rfl, rfl⟩) | (go_at_call 46; refine (negNought_any _).mono ?_; rintro _ _ ⟨rfl, rfl⟩) | (go_at_call 43; refine (bit_any _ _).mono ?_; rintro _ _ ⟨rfl, rfl⟩) | (go_at_call 42; refine (div_any _ _ _).mono ?_; rintro _ _ ⟨rfl, n, rfl⟩) | (go_at_call 38; refine (whole_any _ _).mono ?_; rintro _ _ ⟨rfl, rfl⟩) | (go_at_call 41; refine (clamp_any _ _ _ _ (by assumption) (by assumption) (by assumption)).mono ?_; rintro _ _ ⟨rfl, rfl⟩))
    go_ret
    exact ⟨rfl, n, rfl⟩
  | none =>
    by_cases h0 : heldI p = 0
    · dsimp only
      rw [if_pos h0]
      rw [h0] at hq hf1
      go_enter Try.func27, Try.ntmps27
      go_wp2_with (first | (go_at_call 69; refine (held_any _ _).mono ?_; rintro _ _ ⟨rfl, rfl⟩) | (go_at_call 36; refine (cmp_any _ _ _ (by assumption) (by assumption)).mono ?_; rintro _ _ ⟨rfl, rfl⟩) | (go_at_call 30; refine (same_any _ _ _ (by assumption) (by assumption)).mono ?_; rintro _ _ ⟨rfl, rfl⟩) | (go_at_call 68; refine (isNaN_any _ _).mono ?_; rintro _ _ ⟨rfl, rfl⟩) | (go_at_call 28; refine (isInf_any _ _ (by assumption) (by assumption)).mono ?_; rintro _ _ ⟨rfl, rfl⟩) | (go_at_call 40; refine (nan_any _).mono ?_; rintro _ _ ⟨rfl, rfl⟩) | (go_at_call 39; refine (infPos_any _).mono ?_; rintro _ _ ⟨rfl, rfl⟩) | (go_at_call 39; refine (infNeg_any _).mono ?_; rintro _ _ ⟨rfl, rfl⟩) | (go_at_call 46; refine (negNought_any _).mono ?_; rintro _ _ ⟨rfl, rfl⟩) | (go_at_call 43; refine (bit_any _ _).mono ?_; rintro _ _ ⟨rfl, rfl⟩) | (go_at_call 42; refine (div_any _ _ _).mono ?_; rintro _ _ ⟨rfl, n, rfl⟩) | (go_at_call 38; refine (whole_any _ _).mono ?_; rintro _ _ ⟨rfl, rfl⟩) | (go_at_call 41; refine (clamp_any _ _ _ _ (by assumption) (by assumption) (by assumption)).mono ?_; rintro _ _ ⟨rfl, rfl⟩))
      go_ret
      exact ⟨rfl, n, rfl⟩
    · dsimp only
      rw [if_neg h0]
      go_enter Try.func27, Try.ntmps27
      go_wp2_with (first | (go_at_call 69; refine (held_any _ _).mono ?_; rintro _ _ ⟨rfl, rfl⟩) | (go_at_call 36; refine (cmp_any _ _ _ (by assumption) (by assumption)).mono ?_; rintro _ _ ⟨rfl, rfl⟩) | (go_at_call 30; refine (same_any _ _ _ (by assumption) (by assumption)).mono ?_; rintro _ _ ⟨rfl, rfl⟩) | (go_at_call 68; refine (isNaN_any _ _).mono ?_; rintro _ _ ⟨rfl, rfl⟩) | (go_at_call 28; refine (isInf_any _ _ (by assumption) (by assumption)).mono ?_; rintro _ _ ⟨rfl, rfl⟩) | (go_at_call 40; refine (nan_any _).mono ?_; rintro _ _ ⟨rfl, rfl⟩) | (go_at_call 39; refine (infPos_any _).mono ?_; rintro _ _ ⟨rfl, rfl⟩) | (go_at_call 39; refine (infNeg_any _).mono ?_; rintro _ _ ⟨rfl, rfl⟩) | (go_at_call 46; refine (negNought_any _).mono ?_; rintro _ _ ⟨rfl, rfl⟩) | (go_at_call 43; refine (bit_any _ _).mono ?_; rintro _ _ ⟨rfl, rfl⟩) | (go_at_call 42; refine (div_any _ _ _).mono ?_; rintro _ _ ⟨rfl, n, rfl⟩) | (go_at_call 38; refine (whole_any _ _).mono ?_; rintro _ _ ⟨rfl, rfl⟩) | (go_at_call 41; refine (clamp_any _ _ _ _ (by assumption) (by assumption) (by assumption)).mono ?_; rintro _ _ ⟨rfl, rfl⟩))
      go_ret
      exact ⟨rfl, n, rfl⟩

/-! ### how uneven -/
/-- the greatest by the mean -/
def unevenF (f : Nat → Int) (n : Nat) : Nat :=
  if okN n then (match quot (flInt (heldI (maxI f (n - 1)))) (meanF f n) with
    | some x => x
    | none => NANW) else NANW
set_option maxHeartbeats 1600000 in
theorem uneven_any (f : Nat → Int) (b off n cap : Nat) (w : World) (hc : IntsAt w b off n f) (hn : n ≤ cap) (hn2 : cap ≤ 9223372036854775807) :
    Calls Try.prog 26 #[.slice (some ⟨b, off, none⟩) n cap] w fun e w' => e = .returned (.float .f64 (unevenF f n)) ∧ ∃ k, w' = w.drewN k := by
  have S := Lib.hid (mean_any f b off n cap w hc hn hn2)
  unfold unevenF
  cases hok : okN n with
  | true =>
    have hok2 := hok
    unfold okN at hok2
    simp only [Bool.and_eq_true, decide_eq_true_eq] at hok2
    have MX := Lib.hid (maxI_any f b off n cap w hc hok2.1 (by omega))
    have hnan : isnan (meanF f n) = false := by
      unfold meanF; rw [if_pos hok]
      have hb := hs_bd f n
      exact (quoW_fine (hs f n) n (by omega) (by omega)).2.2.1
    have hf1 : floatOfInt .f64 (heldI (maxI f (n - 1))) = flInt (heldI (maxI f (n - 1))) := rfl
    clear hc hok hok2
    simp only [if_true]
    cases hq : quot (flInt (heldI (maxI f (n - 1)))) (meanF f n) with
    | some x =>
      go_enter Try.func26, Try.ntmps26
      go_wp2_with (first | (go_at_call 24; refine S.out.mono ?_; rintro _ _ ⟨rfl, rfl⟩) | (go_at_call 70; refine MX.out.mono ?_; rintro _ _ ⟨rfl, rfl⟩) | (go_at_call 69; refine (held_any _ _).mono ?_; rintro _ _ ⟨rfl, rfl⟩) | (go_at_call 36; refine (cmp_any _ _ _ (by assumption) (by assumption)).mono ?_; rintro _ _ ⟨rfl, rfl⟩) | (go_at_call 30; refine (same_any _ _ _ (by assumption) (by assumption)).mono ?_; rintro _ _ ⟨rfl, rfl⟩) | (go_at_call 68; refine (isNaN_any _ _).mono ?_; rintro _ _ ⟨rfl, rfl⟩) | (go_at_call 28; refine (isInf_any _ _ (by assumption) (by assumption)).mono ?_; rintro _ _ ⟨rfl, rfl⟩) | (go_at_call 40; refine (nan_any _).mono ?_; rintro _ _ ⟨rfl, rfl⟩) | (go_at_call 39; refine (infPos_any _).mono ?_; rintro _ _ ⟨rfl, rfl⟩) | (go_at_call 39; refine (infNeg_any _).mono ?_; rintro _ _ ⟨rfl, rfl⟩) | (go_at_call 46; refine (negNought_any _).mono ?_; rintro _ _ ⟨rfl, rfl⟩) | (go_at_call 43; refine (bit_any _ _).mono ?_; rintro _ _ ⟨rfl, rfl⟩) | (go_at_call 42; refine (div_any _ _ _).mono ?_; rintro _ _ ⟨rfl, n, rfl⟩) | (go_at_call 38; refine (whole_any _ _).mono ?_; rintro _ _ ⟨rfl, rfl⟩) | (go_at_call 41; refine (clamp_any _ _ _ _ (by assumption) (by assumption) (by assumption)).mono ?_; rintro _ _ ⟨rfl, rfl⟩))
      go_ret
      exact ⟨rfl, n, rfl⟩
    | none =>
      go_enter Try.func26, Try.ntmps26
      go_wp2_with (first | (go_at_call 24; refine S.out.mono ?_; rintro _ _ ⟨rfl, rfl⟩) | (go_at_call 70; refine MX.out.mono ?_; rintro _ _ ⟨rfl, rfl⟩) | (go_at_call 69; refine (held_any _ _).mono ?_; rintro _ _ ⟨rfl, rfl⟩) | (go_at_call 36; refine (cmp_any _ _ _ (by assumption) (by assumption)).mono ?_; rintro _ _ ⟨rfl, rfl⟩) | (go_at_call 30; refine (same_any _ _ _ (by assumption) (by assumption)).mono ?_; rintro _ _ ⟨rfl, rfl⟩) | (go_at_call 68; refine (isNaN_any _ _).mono ?_; rintro _ _ ⟨rfl, rfl⟩) | (go_at_call 28; refine (isInf_any _ _ (by assumption) (by assumption)).mono ?_; rintro _ _ ⟨rfl, rfl⟩) | (go_at_call 40; refine (nan_any _).mono ?_; rintro _ _ ⟨rfl, rfl⟩) | (go_at_call 39; refine (infPos_any _).mono ?_; rintro _ _ ⟨rfl, rfl⟩) | (go_at_call 39; refine (infNeg_any _).mono ?_; rintro _ _ ⟨rfl, rfl⟩) | (go_at_call 46; refine (negNought_any _).mono ?_; rintro _ _ ⟨rfl, rfl⟩) | (go_at_call 43; refine (bit_any _ _).mono ?_; rintro _ _ ⟨rfl, rfl⟩) | (go_at_call 42; refine (div_any _ _ _).mono ?_; rintro _ _ ⟨rfl, n, rfl⟩) | (go_at_call 38; refine (whole_any _ _).mono ?_; rintro _ _ ⟨rfl, rfl⟩) | (go_at_call 41; refine (clamp_any _ _ _ _ (by assumption) (by assumption) (by assumption)).mono ?_; rintro _ _ ⟨rfl, rfl⟩))
      go_ret
      exact ⟨rfl, n, rfl⟩
  | false =>
    have hm : meanF f n = NANW := by unfold meanF; rw [hok]; rfl
    have hnan : isnan NANW = true := by decide
    clear hc hok
    simp only [Bool.false_eq_true, if_false]
    go_enter Try.func26, Try.ntmps26
    go_wp2_with (first | (go_at_call 24; refine S.out.mono ?_; rintro _ _ ⟨rfl, rfl⟩) | (go_at_call 36; refine (cmp_any _ _ _ (by assumption) (by assumption)).mono ?_; rintro _ _ ⟨rfl, rfl⟩) | (go_at_call 30; refine (same_any _ _ _ (by assumption) (by assumption)).mono ?_; rintro _ _ ⟨rfl, rfl⟩) | (go_at_call 68; refine (isNaN_any _ _).mono ?_; rintro _ _ ⟨rfl, rfl⟩) | (go_at_call 28; refine (isInf_any _ _ (by assumption) (by assumption)).mono ?_; rintro _ _ ⟨rfl, rfl⟩) | (go_at_call 40; refine (nan_any _).mono ?_; rintro _ _ ⟨rfl, rfl⟩) | (go_at_call 39; refine (infPos_any _).mono ?_; rintro _ _ ⟨rfl, rfl⟩) | (go_at_call 39; refine (infNeg_any _).mono ?_; rintro _ _ ⟨rfl, rfl⟩) | (go_at_call 46; refine (negNought_any _).mono ?_; rintro _ _ ⟨rfl, rfl⟩) | (go_at_call 43; refine (bit_any _ _).mono ?_; rintro _ _ ⟨rfl, rfl⟩) | (go_at_call 42; refine (div_any _ _ _).mono ?_; rintro _ _ ⟨rfl, n, rfl⟩) | (go_at_call 38; refine (whole_any _ _).mono ?_; rintro _ _ ⟨rfl, rfl⟩) | (go_at_call 41; refine (clamp_any _ _ _ _ (by assumption) (by assumption) (by assumption)).mono ?_; rintro _ _ ⟨rfl, rfl⟩))
    go_ret
    exact ⟨rfl, 0, rfl⟩
set_option maxHeartbeats 400000 in
theorem uneven_none (ao : Option Addr) (cap : Nat) (w : World) : Calls Try.prog 26 #[.slice ao 0 cap] w fun e w' => e = .returned (.float .f64 NANW) ∧ w = w' := by
  have S := Lib.hid (mean_none ao cap w)
  have hnan : isnan NANW = true := by decide
  go_enter Try.func26, Try.ntmps26
  go_wp2_with (first | (go_at_call 24; refine S.out.mono ?_; rintro _ _ ⟨rfl, rfl⟩) | (go_at_call 36; refine (cmp_any _ _ _ (by assumption) (by assumption)).mono ?_; rintro _ _ ⟨rfl, rfl⟩) | (go_at_call 30; refine (same_any _ _ _ (by assumption) (by assumption)).mono ?_; rintro _ _ ⟨rfl, rfl⟩) | (go_at_call 68; refine (isNaN_any _ _).mono ?_; rintro _ _ ⟨rfl, rfl⟩) | (go_at_call 28; refine (isInf_any _ _ (by assumption) (by assumption)).mono ?_; rintro _ _ ⟨rfl, rfl⟩) | (go_at_call 40; refine (nan_any _).mono ?_; rintro _ _ ⟨rfl, rfl⟩) | (go_at_call 39; refine (infPos_any _).mono ?_; rintro _ _ ⟨rfl, rfl⟩) | (go_at_call 39; refine (infNeg_any _).mono ?_; rintro _ _ ⟨rfl, rfl⟩) | (go_at_call 46; refine (negNought_any _).mono ?_; rintro _ _ ⟨rfl, rfl⟩) | (go_at_call 43; refine (bit_any _ _).mono ?_; rintro _ _ ⟨rfl, rfl⟩) | (go_at_call 42; refine (div_any _ _ _).mono ?_; rintro _ _ ⟨rfl, n, rfl⟩) | (go_at_call 38; refine (whole_any _ _).mono ?_; rintro _ _ ⟨rfl, rfl⟩) | (go_at_call 41; refine (clamp_any _ _ _ _ (by assumption) (by assumption) (by assumption)).mono ?_; rintro _ _ ⟨rfl, rfl⟩))
  go_ret
  exact ⟨rfl, rfl⟩
end Go.Proofs.Ytfhcgnkjncfeiaa
