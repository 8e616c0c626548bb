/- Plain facts on 64-bit floats: quotients of whole numbers: between; of twice as much. -/
import Derived.Test.YtfhcgnkjncfeiaaFlJ
namespace Go.Proofs.Ytfhcgnkjncfeiaa.Fl
open Ieee
attribute [local irreducible] quoW flInt fdiv

/-- the rung of 2^53 -/
def M53 : Nat := 4845873199050653696
theorem flN (a : Nat) (h : a ≤ 9007199254740992) : val (flInt a) = a * U ∧ flInt a ≤ M53 ∧ (1 ≤ a → ONE ≤ flInt a) ∧ flInt a < INF := by
  obtain ⟨r, h1, h2, h3⟩ := flInt_word a (by omega)
  rw [decide_eq_false (by omega : ¬ (a : Int) < 0), word_false] at h3
  rw [Int.natAbs_natCast] at h2
  rw [h3]
  refine ⟨h2, ?_, ?_, h1⟩
  · have : val r ≤ val M53 := by
      have e : val M53 = _ := val_M53
      rw [h2, e]; exact Nat.mul_le_mul_right U h
    rcases Nat.lt_or_ge M53 r with hr | hr
    · have := val_lt hr; omega
    · exact hr
  · intro ha
    have : val ONE ≤ val r := by
      rw [h2, val_ONE]; have := Nat.mul_le_mul_right U ha; omega
    rcases Nat.lt_or_ge r ONE with hr | hr
    · have := val_lt hr; omega
    · exact hr
theorem flN_two (a : Nat) (h1 : 1 ≤ a) (h : 2 * a ≤ 9007199254740992) : flInt ((2 * a : Nat) : Int) = flInt a + B := by
  obtain ⟨a1, a2, a3, a4⟩ := flN a (by omega)
  obtain ⟨b1, b2, b3, b4⟩ := flN (2 * a) h
  have hO : B ≤ ONE := by decide
  refine val_inj ?_
  rw [b1, val_up (by have := a3 h1; omega), a1, Nat.mul_assoc]
theorem ex_ge {r : Nat} (h : ONE ≤ r) : 1022 ≤ ex r := by
  unfold ex
  have : 1023 ≤ r / B := (Nat.le_div_iff_mul_le B_pos).2 (Nat.le_trans (by decide) h)
  omega
theorem ex_le {r : Nat} (h : r ≤ M53) : ex r ≤ 1075 := by
  unfold ex
  have : r / B ≤ M53 / B := Nat.div_le_div_right h
  have e : M53 / B = 1076 := by decide
  omega
/-- the least quotient -/
def LOW : Nat := 4368491638549381120
theorem val_LOW : Nat.ble (val LOW * 9007199254740992) U = true := by kernel_rfl
theorem quoN (a b : Nat) (ha : a ≤ 9007199254740992) (hb : 1 ≤ b ∧ b ≤ 9007199254740992) : fdiv (flInt a) (flInt b) = some (quoW a b) ∧ Rnd (quoW a b) (a * U) b ∧ quoW a b < INF ∧ (1 ≤ a → LOW ≤ quoW a b) ∧ quoW a b ≤ M53 := by
  obtain ⟨_, q, _, _, _, _, h1, h2, h3⟩ := quoW_rnd a b (by omega) (by omega)
  obtain ⟨n1, n2⟩ := quoW_near a b ha hb
  refine ⟨by rw [h2, h3], n1, n2, ?_, ?_⟩
  · intro h
    refine n1.ge (by omega) ?_
    have e1 := Nat.le_of_ble_eq_true val_LOW
    have e2 : val LOW * b ≤ val LOW * 9007199254740992 := Nat.mul_le_mul_left _ hb.2
    have e3 : 1 * U ≤ a * U := Nat.mul_le_mul_right U h
    omega
  · refine n1.le (by omega) ?_
    have e : val M53 = _ := val_M53
    rw [e]
    have e1 : a * U ≤ 9007199254740992 * U := Nat.mul_le_mul_right U ha
    exact Nat.le_trans e1 (Nat.le_mul_of_pos_right _ (by omega))
theorem mins {k q r I C : Nat} (h1 : q = min k I) (h2 : r = min (k + C) I) (hq : q < I) (hr : r < I) : r = q + C := by omega
/-- twice as much -/
theorem quoN_two (a b : Nat) (h1 : 1 ≤ a) (ha : 2 * a ≤ 9007199254740992) (hb : 1 ≤ b ∧ b ≤ 9007199254740992) : quoW ((2 * a : Nat) : Int) b = quoW a b + B := by
  obtain ⟨q1, _, q3, q4, q5⟩ := quoN a b (by omega) hb
  obtain ⟨r1, _, r3, r4, r5⟩ := quoN (2 * a) b ha hb
  obtain ⟨a1, a2, a3, a4⟩ := flN a (by omega)
  obtain ⟨b1, b2, b3, b4⟩ := flN b hb.2
  have hO : B ≤ ONE := by decide
  have hM : M53 + B + B + B < INF := by decide
  have hx := a3 h1
  have hy := b3 hb.1
  have e1 := ex_ge hx
  have e2 := ex_le b2
  obtain ⟨k, k1, k2⟩ := fdiv_up (x := flInt a) (y := flInt b) (by omega) (by omega) b4 (by have := B_pos; omega) (by omega)
  rw [← flN_two a h1 ha, r1] at k2
  rw [q1] at k1
  exact mins (Option.some.inj k1) (Option.some.inj k2) q3 r3
theorem mean_le {s n m : Nat} (hs : s ≤ n * m) (hm : m ≤ 9007199254740992) (hs2 : s ≤ 9007199254740992) (hn : 1 ≤ n ∧ n ≤ 9007199254740992) : quoW s n ≤ flInt m := by
  obtain ⟨_, q2, _⟩ := quoN s n hs2 hn
  obtain ⟨a1, _⟩ := flN m hm
  refine q2.le (by omega) ?_
  rw [a1]
  have := Nat.mul_le_mul_right U hs
  calc s * U ≤ n * m * U := this
    _ = m * U * n := by rw [Nat.mul_comm n, Nat.mul_right_comm]
theorem mean_ge {s n m : Nat} (hs : n * m ≤ s) (hm : m ≤ 9007199254740992) (hs2 : s ≤ 9007199254740992) (hn : 1 ≤ n ∧ n ≤ 9007199254740992) : flInt m ≤ quoW s n := by
  obtain ⟨_, q2, _⟩ := quoN s n hs2 hn
  obtain ⟨a1, _⟩ := flN m hm
  refine q2.ge (by omega) ?_
  rw [a1]
  have := Nat.mul_le_mul_right U hs
  calc m * U * n = n * m * U := by rw [Nat.mul_comm n, Nat.mul_right_comm]
    _ ≤ s * U := this
/-- the greatest quotient of a number by a mean -/
def HIGH : Nat := 5336660891748893696
theorem val_HIGH : Nat.ble (9007199254740992 * U * U) (val HIGH * val LOW) = true := by kernel_rfl
theorem over_mean {s n m : Nat} (hs : s ≤ n * m) (h1 : 1 ≤ s) (hm : m ≤ 9007199254740992) (hs2 : s ≤ 9007199254740992) (hn : 1 ≤ n ∧ n ≤ 9007199254740992) :
    ∃ z, fdiv (flInt m) (quoW s n) = some z ∧ ONE ≤ z ∧ z ≤ HIGH := by
  obtain ⟨_, _, q3, q4, q5⟩ := quoN s n hs2 hn
  obtain ⟨a1, _, _, a4⟩ := flN m hm
  obtain ⟨_, _, x1, x2⟩ := plain_fine a4
  obtain ⟨_, _, y1, y2⟩ := plain_fine q3
  have hL := q4 h1
  have hL0 : 0 < LOW := by decide
  obtain ⟨k, k1, k2⟩ := fdiv_num (x := flInt m) (y := quoW s n) (by rw [x2]; exact a4) (by rw [y2]; exact q3) (by rw [y2]; omega)
  rw [x2, y2] at k2
  have hv : 0 < val (quoW s n) := val_pos (by omega)
  have g1 : ONE ≤ k := k2.ge hv (by
    rw [val_ONE, Nat.mul_comm]
    exact Nat.mul_le_mul_right U (val_le (mean_le hs hm hs2 hn)))
  have g2 : k ≤ HIGH := k2.le hv (by
    rw [a1]
    have e1 := Nat.le_of_ble_eq_true val_HIGH
    have e2 : val HIGH * val LOW ≤ val HIGH * val (quoW s n) := Nat.mul_le_mul_left _ (val_le hL)
    have e3 : m * U * U ≤ 9007199254740992 * U * U := Nat.mul_le_mul_right U (Nat.mul_le_mul_right U hm)
    exact Nat.le_trans e3 (Nat.le_trans e1 e2))
  have hI : HIGH < INF := by decide
  refine ⟨k, ?_, g1, g2⟩
  rw [k1, x1, y1, Nat.min_eq_left (by omega)]
  exact congrArg some (word_false k)
/-- of both twice as much it is the same -/
theorem over_two {s n m : Nat} (hs : s ≤ n * m) (h1 : 1 ≤ s) (hm : 2 * m ≤ 9007199254740992) (hs2 : 2 * s ≤ 9007199254740992) (hn : 1 ≤ n ∧ n ≤ 9007199254740992) :
    fdiv (flInt ((2 * m : Nat) : Int)) (quoW ((2 * s : Nat) : Int) n) = fdiv (flInt m) (quoW s n) := by
  have m1 : 1 ≤ m := by
    rcases Nat.eq_zero_or_pos m with h | h
    · subst h; omega
    · exact h
  obtain ⟨_, _, q3, q4, q5⟩ := quoN s n (by omega) hn
  obtain ⟨a1, a2, a3, a4⟩ := flN m (by omega)
  have hM : M53 + B + B + B < INF := by decide
  have hO : B ≤ ONE := by decide
  have hL : B ≤ LOW := by decide
  rw [flN_two m m1 hm, quoN_two s n h1 hs2 hn]
  exact fdiv_both (by have := a3 m1; omega) (by omega) (by have := q4 h1; omega) (by omega)
/-- noughts and nothing else -/
theorem quoN_zero_iff (a b : Nat) (ha : a ≤ 9007199254740992) (hb : 1 ≤ b ∧ b ≤ 9007199254740992) : quoW a b = 0 ↔ a = 0 := by
  obtain ⟨_, q2, q3, q4, q5⟩ := quoN a b ha hb
  have hL : 0 < LOW := by decide
  constructor
  · intro h
    rcases Nat.eq_zero_or_pos a with h0 | h0
    · exact h0
    · have := q4 h0; omega
  · rintro rfl
    exact q2.exact (by omega) (by rw [val_zero, Nat.zero_mul, Nat.zero_mul])
end Go.Proofs.Ytfhcgnkjncfeiaa.Fl
