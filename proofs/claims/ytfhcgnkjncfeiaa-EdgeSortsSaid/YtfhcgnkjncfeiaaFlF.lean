/- Plain facts on 64-bit floats: which whole numbers and halves are told as whole. -/
import Derived.Test.YtfhcgnkjncfeiaaFlE
namespace Go.Proofs.Ytfhcgnkjncfeiaa.Fl
open Ieee

theorem rung_of (m e : Nat) (h : m < 9007199254740992) (he : 52 ≤ e) (he2 : e ≤ 1900) : ∃ r, r < INF ∧ val r = m * 2 ^ e := by
  by_cases h0 : m = 0
  · subst h0; exact ⟨0, by decide, by rw [val_zero, Nat.zero_mul]⟩
  · have h1 : 2 ^ m.log2 ≤ m := Nat.log2_self_le h0
    have h2 : m < 2 ^ (m.log2 + 1) := Nat.lt_log2_self
    have h3 : m.log2 < 53 := by
      rw [Nat.log2_lt h0]
      have : (9007199254740992 : Nat) = 2 ^ 53 := by decide
      rw [← this]; omega
    generalize m.log2 = t at *
    have e2 : (2 : Nat) ^ 53 = 2 * B := by decide
    have hu : m * 2 ^ (52 - t) ≤ 2 * B := by
      have : m * 2 ^ (52 - t) ≤ 2 ^ (t + 1) * 2 ^ (52 - t) := Nat.mul_le_mul_right _ (Nat.le_of_lt h2)
      rw [← Nat.pow_add] at this
      have e : t + 1 + (52 - t) = 53 := by omega
      rw [e, e2] at this
      exact this
    refine ⟨(e - 52 + t) * B + m * 2 ^ (52 - t), ?_, ?_⟩
    · have e3 : (e - 52 + t) * B ≤ 1900 * B := Nat.mul_le_mul_right B (by omega)
      have e4 : 1900 * B + 2 * B < INF := by decide
      omega
    · rw [val_at _ _ hu]
      · rw [Nat.mul_assoc, ← Nat.pow_add]; congr 2; omega
      · right
        have : 2 ^ t * 2 ^ (52 - t) ≤ m * 2 ^ (52 - t) := Nat.mul_le_mul_right _ h1
        rw [← Nat.pow_add] at this
        have e : t + (52 - t) = 52 := by omega
        rw [e, ← B_eq] at this
        exact this

theorem flInt_whole (n : Int) (h : n.natAbs ≤ 9007199254740992) : wholeOk (flInt n) = true ∧ wholeI (flInt n) = n ∧ Wd (flInt n) ∧ isnan (flInt n) = false := by
  obtain ⟨r, h1, h2, h3⟩ := flInt_word n h
  obtain ⟨f1, f2, f3, f4⟩ := word_fine (decide (n < 0)) (Nat.le_of_lt h1)
  rw [← h3] at f1 f2 f3 f4
  have hd : val (rg (flInt n)) / U = n.natAbs := by rw [f4, h2, Nat.mul_div_cancel _ U_pos]
  have hM : r ≤ 4845873199050653696 := by
    by_cases hr : r ≤ 4845873199050653696
    · exact hr
    · have := val_lt (by omega : 4845873199050653696 < r)
      rw [val_M53, h2] at this
      have := Nat.mul_le_mul_right U h
      omega
  refine ⟨?_, ?_, f1, f2⟩
  · unfold wholeOk
    have e1 : isnan 14069245235905429504 = false := by decide
    have e2 : isnan 4845873199050653696 = false := by decide
    have k1 : key 14069245235905429504 = -4845873199050653696 := by decide
    have k2 : key 4845873199050653696 = 4845873199050653696 := by decide
    have t : truncF (flInt n) = flInt n := by
      rw [truncF_num (by rw [f4]; exact h1), hd, f3]
      rfl
    have g1 : flt (flInt n) 14069245235905429504 = false := by
      unfold flt; rw [k1]
      have : ¬ key (flInt n) < -4845873199050653696 := by unfold key; rw [f4]; split <;> omega
      rw [decide_eq_false this, Bool.and_false]
    have g2 : flt 4845873199050653696 (flInt n) = false := by
      unfold flt; rw [k2]
      have : ¬ 4845873199050653696 < key (flInt n) := by unfold key; rw [f4]; split <;> omega
      rw [decide_eq_false this, Bool.and_false]
    rw [f2, g1, g2, t, feq_self, f2]; rfl
  · unfold wholeI
    rw [f3, hd]
    by_cases hn : n < 0
    · rw [decide_eq_true hn]; simp; omega
    · rw [decide_eq_false hn]; simp; omega

/-- half of one more -/
def HALF : Nat := 4602678819172646912
theorem val_HALF' : val HALF = pw 1073 := by
  obtain ⟨n, h⟩ : ∃ n, n = 1073 := ⟨_, rfl⟩
  have e : HALF = 1021 * B + B := by decide
  rw [e, val_pow (n := n) (by omega), ← pw_eq, h]
def fadd (x y : Nat) : Option Nat := Ieee.double.add x y
theorem fadd_half' (k : Int) (h : Nat) (hk : k.natAbs ≤ 2251799813685248) (rH : rg h = h) (hI : h < INF) (sH : sg h = false) (vH' : val h = pw 1073) : ∃ z, fadd (flInt k) h = some z ∧ Wd z ∧ wholeOk z = false := by
  obtain ⟨r, h1, h2, h3⟩ := flInt_word k (by omega)
  obtain ⟨f1, f2, f3, f4⟩ := word_fine (decide (k < 0)) (Nat.le_of_lt h1)
  rw [← h3] at f1 f2 f3 f4
  have hr : rg (flInt k) < INF := by rw [f4]; exact h1
  obtain ⟨e, he⟩ : ∃ e, e = 1073 := ⟨_, rfl⟩
  have hU : U = 2 * 2 ^ e := by rw [Nat.mul_comm, ← Nat.pow_succ]; exact U_pow (by omega)
  have vH : val h = 2 ^ e := by rw [vH', ← he, pw_eq]
  obtain ⟨q, q1, q2⟩ := rung_of (2 * k + 1).natAbs e (by omega) (by omega) (by omega)
  obtain ⟨eh, exH⟩ : ∃ eh, ex h = eh := ⟨_, rfl⟩
  obtain ⟨s', hs⟩ : ∃ s', fadd (flInt k) h = some (Ieee.double.word s' q) := by
    unfold fadd Format.add
    rw [read_num hr, read_num (by rw [rH]; exact hI)]
    unfold Datum.sum
    rw [rH, sH, exH, f3, f4]
    simp only [Option.map_some, write_num]
    generalize ht : min (-1074 + (ex r : Int)) (-1074 + (eh : Int)) = base
    obtain ⟨t, htb⟩ : ∃ t : Nat, base = -1074 + (t : Int) := ⟨min (ex r) eh, by omega⟩
    have t1 : t ≤ ex r := by omega
    have t2 : t ≤ eh := by omega
    have a1 : (-1074 + (ex r : Int) - base).toNat = ex r - t := by omega
    have a2 : (-1074 + (eh : Int) - base).toNat = eh - t := by omega
    rw [a1, a2]
    have b1 := signed_val (decide (k < 0)) r t t1
    have b2 := signed_val false h t (by rw [exH]; exact t2)
    rw [exH, vH] at b2
    rw [h2] at b1
    generalize signed (decide (k < 0)) (mag r) (ex r - t) = S at b1 ⊢
    generalize signed false (mag h) (eh - t) = T at b2 ⊢
    refine ⟨_, congrArg some (nearest_exact _ _ _ q (Nat.le_of_lt q1) fun L d hLd => ?_)⟩
    have hL : L = t + d := by omega
    rw [hL, q2, Nat.pow_add, ← Nat.mul_assoc]
    congr 1
    have b3 : (S + T) * ((2 ^ t : Nat) : Int) = (2 * k + 1) * ((2 ^ e : Nat) : Int) := by
      have c1 : S * ((2 ^ t : Nat) : Int) = (if decide (k < 0) then -((k.natAbs * U : Nat) : Int) else ((k.natAbs * U : Nat) : Int)) := by
        rw [← b1]; simp
      have c2 : T * ((2 ^ t : Nat) : Int) = ((2 ^ e : Nat) : Int) := by
        simp at b2 ⊢; exact b2
      rw [Int.add_mul, c1, c2, hU]
      have c3 : ((k.natAbs * (2 * 2 ^ e) : Nat) : Int) = (k.natAbs : Int) * (2 * ((2 ^ e : Nat) : Int)) := by simp
      rw [c3]
      generalize ((2 ^ e : Nat) : Int) = E
      by_cases hn : k < 0
      · rw [decide_eq_true hn]
        have : (k.natAbs : Int) = -k := by omega
        rw [this]
        simp only [if_true]
        rw [Int.add_mul, Int.mul_comm 2 k, Int.mul_assoc, Int.neg_mul, Int.neg_neg]; simp
      · rw [decide_eq_false hn]
        have : (k.natAbs : Int) = k := by omega
        rw [this]
        simp only [Bool.false_eq_true, if_false]
        rw [Int.add_mul, Int.mul_comm 2 k, Int.mul_assoc]; simp
    have := congrArg Int.natAbs b3
    rw [Int.natAbs_mul, Int.natAbs_mul, Int.natAbs_natCast, Int.natAbs_natCast] at this
    exact this
  obtain ⟨g1, g2, g3, g4⟩ := word_fine s' (Nat.le_of_lt q1)
  refine ⟨_, hs, g1, ?_⟩
  generalize Ieee.double.word s' q = z at g1 g2 g3 g4
  obtain ⟨j, hj⟩ : ∃ j, (2 * k + 1).natAbs = 2 * j + 1 := ⟨(2 * k + 1).natAbs / 2, by omega⟩
  have hP : 0 < 2 ^ e := Nat.two_pow_pos e
  have hd : val (rg z) / U = j := by
    rw [g4, q2, hj, hU]
    rw [show (2 * j + 1) * 2 ^ e = 2 ^ e * (2 * j + 1) from Nat.mul_comm _ _, show 2 * 2 ^ e = 2 ^ e * 2 from Nat.mul_comm _ _, Nat.mul_div_mul_left _ _ hP]
    omega
  obtain ⟨u, u1, u2⟩ := int_rung j (by omega)
  have ht : truncF z = Ieee.double.word s' u := by
    rw [truncF_num (by rw [g4]; exact q1), hd, g3]
    exact nearest_exact _ _ 0 u (Nat.le_of_lt u1) fun L d hLd => by
      have : L = 1074 + d := by omega
      rw [u2, this, Nat.add_comm, pow_U rfl, Nat.mul_assoc, Nat.mul_comm U]
  obtain ⟨v1, v2, v3, v4⟩ := word_fine s' (Nat.le_of_lt u1)
  have hne : q ≠ u := by
    intro h
    have h5 : val q = val u := by rw [h]
    rw [q2, u2, hj, hU, ← Nat.mul_assoc] at h5
    have := Nat.eq_of_mul_eq_mul_right hP h5
    omega
  have hf : feq z (truncF z) = false := by
    rw [ht]; unfold feq
    rw [g2, v2]
    have : ¬ key z = key (Ieee.double.word s' u) := by
      unfold key; rw [g3, g4, v3, v4]
      cases s' <;> simp <;> omega
    rw [decide_eq_false this]; rfl
  unfold wholeOk
  rw [hf, Bool.and_false]
theorem fadd_half (k : Int) (hk : k.natAbs ≤ 2251799813685248) : ∃ z, fadd (flInt k) HALF = some z ∧ Wd z ∧ wholeOk z = false :=
  fadd_half' k HALF hk (by decide) (by decide) (by decide) val_HALF'
end Go.Proofs.Ytfhcgnkjncfeiaa.Fl
