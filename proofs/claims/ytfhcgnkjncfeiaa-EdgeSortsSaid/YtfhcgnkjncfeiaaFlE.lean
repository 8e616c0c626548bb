/- Plain facts on 64-bit floats: which quotients there are; whole numbers; numbers cut towards nought. -/
import Derived.Test.YtfhcgnkjncfeiaaFlD
import Derived.Laws.FloatArith
namespace Go.Proofs.Ytfhcgnkjncfeiaa.Fl
open Ieee

/-- the unit: one is so many least numbers -/
@[irreducible] def pw (n : Nat) : Nat := 2 ^ n
theorem pw_eq (n : Nat) : pw n = 2 ^ n := by unfold pw; rfl
def U : Nat := pw 1074
theorem U_pow {n : Nat} (h : n = 1074) : U = 2 ^ n := by rw [← pw_eq, h]; rfl
theorem U_pos : 0 < U := by
  obtain ⟨n, h⟩ : ∃ n, n = 1074 := ⟨_, rfl⟩
  rw [U_pow h]; exact Nat.two_pow_pos _
theorem U_split {a b : Nat} (h : a + b = 1074) : U = 2 ^ a * 2 ^ b := by rw [← Nat.pow_add, U_pow h]
theorem pow_U {n a : Nat} (h : n = a + 1074) : 2 ^ n = 2 ^ a * U := by
  obtain ⟨b, hb⟩ : ∃ b, b = 1074 := ⟨_, rfl⟩
  have h' : n = a + b := by omega
  rw [U_pow hb, ← Nat.pow_add, h']
/-! ### quotients -/
def fdiv (x y : Nat) : Option Nat := Ieee.double.div x y

theorem fdiv_nan_left {x : Nat} (y : Nat) (h : isnan x = true) : fdiv x y = none := by
  unfold fdiv Format.div; rw [read_nan ((isnan_iff x).1 h)]; unfold Datum.quotient; rfl
theorem fdiv_nan_right (x : Nat) {y : Nat} (h : isnan y = true) : fdiv x y = none := by
  unfold fdiv Format.div; rw [read_nan ((isnan_iff y).1 h)]
  cases Ieee.double.read x <;> rfl
theorem fdiv_inf_inf {x y : Nat} (hx : rg x = INF) (hy : rg y = INF) : fdiv x y = none := by
  unfold fdiv Format.div; rw [read_inf hx, read_inf hy]; rfl
theorem fdiv_inf_num {x y : Nat} (hx : rg x = INF) (hy : rg y < INF) : fdiv x y = some (Ieee.double.word (sg x ^^ sg y) INF) := by
  unfold fdiv Format.div; rw [read_inf hx, read_num hy]; rfl
theorem fdiv_num_inf {x y : Nat} (hx : rg x < INF) (hy : rg y = INF) : fdiv x y = some (Ieee.double.word (sg x ^^ sg y) 0) := by
  unfold fdiv Format.div; rw [read_num hx, read_inf hy]
  show some (Ieee.double.nearest _ 0 0) = _
  rw [nearest_zero]
theorem fdiv_nought_nought {x y : Nat} (hx : rg x = 0) (hy : rg y = 0) : fdiv x y = none := by
  have h : mag 0 = 0 := by decide
  unfold fdiv Format.div; rw [read_num (by rw [hx]; decide), read_num (by rw [hy]; decide), hx, hy, h]
  unfold Datum.quotient; simp
theorem fdiv_num_nought {x y : Nat} (hx : rg x < INF) (h0 : 0 < rg x) (hy : rg y = 0) : fdiv x y = some (Ieee.double.word (sg x ^^ sg y) INF) := by
  have h : mag 0 = 0 := by decide
  have h1 := mag_pos h0
  unfold fdiv Format.div; rw [read_num hx, read_num (by rw [hy]; decide), hy, h]
  unfold Datum.quotient; simp only [if_true, if_neg (Nat.pos_iff_ne_zero.1 h1), Option.map_some]
  rfl
theorem fdiv_num {x y : Nat} (hx : rg x < INF) (hy : rg y < INF) (hy0 : 0 < rg y) :
    ∃ k, fdiv x y = some (Ieee.double.word (sg x ^^ sg y) (min k INF)) ∧ Rnd k (val (rg x) * U) (val (rg y)) := by
  have h := div_num hx hy hy0
  rw [← U_pow rfl] at h
  exact h

theorem INF_lt : INF < 9223372036854775808 := by decide
theorem word_fine (s : Bool) {r : Nat} (h : r ≤ INF) : Wd (Ieee.double.word s r) ∧ isnan (Ieee.double.word s r) = false ∧ sg (Ieee.double.word s r) = s ∧ rg (Ieee.double.word s r) = r := by
  have hI := INF_lt
  have h1 : r < 9223372036854775808 := by omega
  refine ⟨?_, ?_, sg_word h1, rg_word h1⟩
  · unfold Wd; rw [word_eq]; split <;> omega
  · rw [isnan_not, rg_word h1]; exact h
theorem fdiv_fine {x y q : Nat} (h : fdiv x y = some q) : Wd q ∧ isnan q = false := by
  by_cases hx : isnan x = true
  · rw [fdiv_nan_left y hx] at h; cases h
  by_cases hy : isnan y = true
  · rw [fdiv_nan_right x hy] at h; cases h
  have h1 := (isnan_not x).1 (by simpa using hx)
  have h2 := (isnan_not y).1 (by simpa using hy)
  rcases Nat.eq_or_lt_of_le h1 with h1 | h1
  · rcases Nat.eq_or_lt_of_le h2 with h2 | h2
    · rw [fdiv_inf_inf h1 h2] at h; cases h
    · rw [fdiv_inf_num h1 h2] at h; cases h
      have := word_fine (sg x ^^ sg y) (Nat.le_refl INF); exact ⟨this.1, this.2.1⟩
  · rcases Nat.eq_or_lt_of_le h2 with h2 | h2
    · rw [fdiv_num_inf h1 h2] at h; cases h
      have := word_fine (sg x ^^ sg y) (Nat.zero_le INF); exact ⟨this.1, this.2.1⟩
    · by_cases hy0 : 0 < rg y
      · obtain ⟨k, hk, _⟩ := fdiv_num h1 h2 hy0
        rw [hk] at h; cases h
        have := word_fine (sg x ^^ sg y) (Nat.min_le_right k INF); exact ⟨this.1, this.2.1⟩
      · by_cases hx0 : 0 < rg x
        · rw [fdiv_num_nought h1 hx0 (by omega)] at h; cases h
          have := word_fine (sg x ^^ sg y) (Nat.le_refl INF); exact ⟨this.1, this.2.1⟩
        · rw [fdiv_nought_nought (by omega) (by omega)] at h; cases h

def ONE : Nat := 4607182418800017408
theorem val_pow {t n : Nat} (h : n = 52 + t) : val (t * B + B) = 2 ^ n := by
  rw [val_at t B (by have := B_pos; omega) (Or.inr (Nat.le_refl _)), B_eq, ← Nat.pow_add, h]
theorem val_53 {t : Nat} (h : t = 1075) : val (t * B + B) = 9007199254740992 * U := by
  have e : (9007199254740992 : Nat) = 2 ^ 53 := by decide
  rw [val_pow (n := 52 + t) rfl, e]
  exact pow_U (by omega)
theorem val_ONE : val ONE = U := by
  have e : ONE = 1022 * B + B := by decide
  obtain ⟨n, h⟩ : ∃ n, n = 1074 := ⟨_, rfl⟩
  rw [e, val_pow (n := n) (by omega)]
  exact (U_pow h).symm
theorem fdiv_self {y : Nat} (hy : rg y < INF) (hy0 : 0 < rg y) : fdiv y y = some ONE := by
  obtain ⟨k, hk, hr⟩ := fdiv_num hy hy hy0
  have hp := val_pos hy0
  have : k = ONE := hr.exact hp (by rw [val_ONE, Nat.mul_comm])
  rw [hk, this]
  have : min ONE INF = ONE := by decide
  rw [this, Bool.xor_self]; rfl

/-! ### whole numbers -/
theorem int_rung (m : Nat) (h : m ≤ 9007199254740992) : ∃ r, r < INF ∧ val r = m * U := by
  by_cases h0 : m = 0
  · subst h0; exact ⟨0, by decide, by rw [val_zero, Nat.zero_mul]⟩
  by_cases h53 : m = 9007199254740992
  · refine ⟨1075 * B + B, by decide, ?_⟩
    rw [h53]; exact val_53 rfl
  · have h1 : 2 ^ m.log2 ≤ m := Nat.log2_self_le h0
    have h2 : m < 2 ^ (m.log2 + 1) := Nat.lt_log2_self
    have h3 : m.log2 < 53 := by
      rw [Nat.log2_lt h0]
      have : (9007199254740992 : Nat) = 2 ^ 53 := by decide
      rw [← this]; omega
    generalize m.log2 = t at *
    refine ⟨(1022 + t) * B + m * 2 ^ (52 - t), ?_, ?_⟩
    · have : m * 2 ^ (52 - t) ≤ 2 ^ (t + 1) * 2 ^ (52 - t) := Nat.mul_le_mul_right _ (Nat.le_of_lt h2)
      rw [← Nat.pow_add] at this
      have e : t + 1 + (52 - t) = 53 := by omega
      rw [e] at this
      have e2 : (2 : Nat) ^ 53 = 2 * B := by decide
      rw [e2] at this
      have e3 : (1022 + t) * B ≤ 1074 * B := Nat.mul_le_mul_right B (by omega)
      have e4 : 1074 * B + 2 * B < INF := by decide
      omega
    · rw [val_at]
      · rw [Nat.mul_assoc, ← U_split (by omega)]
      · have : m * 2 ^ (52 - t) ≤ 2 ^ (t + 1) * 2 ^ (52 - t) := Nat.mul_le_mul_right _ (Nat.le_of_lt h2)
        rw [← Nat.pow_add] at this
        have e : t + 1 + (52 - t) = 53 := by omega
        rw [e] at this
        have e2 : (2 : Nat) ^ 53 = 2 * B := by decide
        omega
      · right
        have : 2 ^ t * 2 ^ (52 - t) ≤ m * 2 ^ (52 - t) := Nat.mul_le_mul_right _ h1
        rw [← Nat.pow_add] at this
        have e : t + (52 - t) = 52 := by omega
        rw [e, ← B_eq] at this
        exact this

/-- a number that has a rung is rounded to that rung -/
theorem nearest_exact (s : Bool) (m : Nat) (p : Int) (r : Nat) (hr : r ≤ INF) (h : ∀ L d : Nat, p + 1074 + d = L → m * 2 ^ L = val r * 2 ^ d) : Ieee.double.nearest s m p = Ieee.double.word s r := by
  by_cases hm : m = 0
  · subst hm
    have h1 := h (p + 1074).toNat (-(p + 1074)).toNat (by omega)
    rw [Nat.zero_mul] at h1
    have : val r = 0 := by
      rcases Nat.mul_eq_zero.1 h1.symm with h | h
      · exact h
      · exact absurd h (Nat.pos_iff_ne_zero.1 (Nat.two_pow_pos _))
    have : r = 0 := val_inj (this.trans val_zero.symm)
    rw [this, nearest_zero]
  · obtain ⟨k, hk, hrnd⟩ := nearest_real s m p m 1 (by omega) (by decide) (Or.inl (by omega))
    have : k = r := (hrnd (val r) 1 (by decide) fun L d hLd => by rw [h L d hLd]).exact (by decide) (by omega)
    rw [hk, this, Nat.min_eq_left hr]

/-- a whole number's word -/
def flInt (n : Int) : Nat := Ieee.double.nearest (n < 0) n.natAbs 0
theorem flInt_eq (n : Int) : Go.floatOfInt .f64 n = flInt n := rfl
theorem flInt_word (n : Int) (h : n.natAbs ≤ 9007199254740992) : ∃ r, r < INF ∧ val r = n.natAbs * U ∧ flInt n = Ieee.double.word (decide (n < 0)) r := by
  obtain ⟨r, h1, h2⟩ := int_rung n.natAbs h
  refine ⟨r, h1, h2, ?_⟩
  exact nearest_exact _ _ 0 r (by omega) fun L d hLd => by
    have : L = 1074 + d := by omega
    rw [h2, this, Nat.add_comm, pow_U rfl, Nat.mul_assoc, Nat.mul_comm U]

/-! ### cut towards nought -/
theorem cut_zero (neg : Bool) (n d : Nat) : Toward.zero.cut neg n d = n / 2 ^ d := by
  unfold Toward.cut
  simp only [Bool.toNat_false, Nat.add_zero, Nat.one_shiftLeft]
  by_cases h : d ≤ n.log2 + 2
  · rw [Nat.min_eq_left h]
  · rw [Nat.min_eq_right (by omega)]
    have h1 : n < 2 ^ (n.log2 + 1) := Nat.lt_log2_self
    rw [Nat.div_eq_of_lt (Nat.lt_of_lt_of_le h1 (Nat.pow_le_pow_right (by decide) (by omega))), Nat.div_eq_of_lt (Nat.lt_of_lt_of_le h1 (Nat.pow_le_pow_right (by decide) (by omega)))]
theorem integral_num {x : Nat} (h : rg x < INF) : (Ieee.double.read x).integral .zero = .number (sg x) (val (rg x) / U) 0 := by
  rw [read_num h]
  unfold Datum.integral
  simp only [cut_zero, Nat.shiftLeft_eq]
  congr 1
  unfold val
  by_cases he : 1074 ≤ ex (rg x)
  · have e1 : (-(-1074 + (ex (rg x) : Int))).toNat = 0 := by omega
    have e2 : (-1074 + (ex (rg x) : Int)).toNat = ex (rg x) - 1074 := by omega
    rw [e1, e2, Nat.pow_zero, Nat.div_one]
    have e3 : 2 ^ ex (rg x) = 2 ^ (ex (rg x) - 1074) * U := pow_U (by omega)
    rw [e3, ← Nat.mul_assoc, Nat.mul_div_cancel _ U_pos]
  · have e1 : (-(-1074 + (ex (rg x) : Int))).toNat = 1074 - ex (rg x) := by omega
    have e2 : (-1074 + (ex (rg x) : Int)).toNat = 0 := by omega
    rw [e1, e2, Nat.pow_zero, Nat.mul_one]
    have e3 : U = 2 ^ (1074 - ex (rg x)) * 2 ^ ex (rg x) := U_split (by omega)
    rw [e3, Nat.mul_div_mul_right _ _ (Nat.two_pow_pos _)]

/-- a number cut towards nought -/
def truncF (x : Nat) : Nat := Ieee.double.write ((Ieee.double.read x).integral .zero)
theorem truncF_num {x : Nat} (h : rg x < INF) : truncF x = Ieee.double.nearest (sg x) (val (rg x) / U) 0 := by
  unfold truncF; rw [integral_num h, write_num]
/-- the whole number that a number is, cut -/
def wholeI (x : Nat) : Int := if sg x then -(val (rg x) / U : Nat) else (val (rg x) / U : Nat)
/-- is a number told as a whole one? -/
def wholeOk (x : Nat) : Bool := !isnan x && !flt x 14069245235905429504 && !flt 4845873199050653696 x && feq x (truncF x)

theorem val_M53 : val 4845873199050653696 = 9007199254740992 * U := by
  have e : 4845873199050653696 = 1075 * B + B := by decide
  rw [e]; exact val_53 rfl
/-- in reach: no greater than 2 to the 53rd -/
theorem reach {x : Nat} (h1 : isnan x = false) (h2 : flt x 14069245235905429504 = false) (h3 : flt 4845873199050653696 x = false) : rg x ≤ 4845873199050653696 := by
  have e1 : isnan 14069245235905429504 = false := by decide
  have e2 : isnan 4845873199050653696 = false := by decide
  have k1 : key 14069245235905429504 = -4845873199050653696 := by decide
  have k2 : key 4845873199050653696 = 4845873199050653696 := by decide
  unfold flt at h2 h3
  rw [h1, e1, k1] at h2
  rw [h1, e2, k2] at h3
  simp only [Bool.not_false, Bool.true_and, decide_eq_false_iff_not] at h2 h3
  unfold key at h2 h3
  revert h2 h3
  cases sg x <;> simp <;> intros <;> omega
theorem wholeI_bd {x : Nat} (h : rg x ≤ 4845873199050653696) : -9007199254740992 ≤ wholeI x ∧ wholeI x ≤ 9007199254740992 := by
  have h1 := val_le h
  rw [val_M53] at h1
  have h2 : val (rg x) / U ≤ 9007199254740992 := by
    rw [Nat.mul_comm] at h1; exact Nat.div_le_of_le_mul h1
  unfold wholeI
  generalize val (rg x) / U = q at h2
  split <;> omega
theorem toInt_num {x : Nat} (h : rg x < INF) : (Ieee.double.read x).toInt .zero = some (wholeI x) := by
  unfold Datum.toInt
  rw [integral_num h]
  unfold wholeI signed
  simp only [Nat.shiftLeft_zero]
theorem floatToInt_reach {x : Nat} (h : rg x ≤ 4845873199050653696) : Go.floatToIntVal .f64 x .i64 = some (wholeI x) := by
  have h1 := wholeI_bd h
  unfold Go.floatToIntVal
  have e : (Go.FloatKind.f64.decode x).toInt .zero = some (wholeI x) := toInt_num (Nat.lt_of_le_of_lt h (by decide))
  rw [e]
  have e1 : Go.IntKind.min .i64 = -9223372036854775808 := by decide
  have e2 : Go.IntKind.max .i64 = 9223372036854775807 := by decide
  simp only [e1, e2]
  rw [if_pos (by omega)]
end Go.Proofs.Ytfhcgnkjncfeiaa.Fl
