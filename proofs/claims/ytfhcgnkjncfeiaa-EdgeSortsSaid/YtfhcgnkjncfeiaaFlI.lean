/- Plain facts on parts of a whole, as floats. -/
import Derived.Test.YtfhcgnkjncfeiaaFlH
namespace Go.Proofs.Ytfhcgnkjncfeiaa.Fl
open Ieee

/-- the quotient of whole numbers that have their words: a nearest rung of the quotient -/
theorem quoW_near (a b : Nat) (ha : a ≤ 9007199254740992) (hb : 1 ≤ b ∧ b ≤ 9007199254740992) : Rnd (quoW a b) (a * U) b ∧ quoW a b < INF := by
  obtain ⟨ra, q, h1, _, _, h4, h5, _, h7⟩ := quoW_rnd a b (by omega) (by omega)
  obtain ⟨r, r1, r2, _⟩ := flInt_word (a : Int) (by omega)
  have e : ra = r := h1.exact (by decide) (by rw [r2, Nat.mul_one])
  rw [h7]
  rw [e, r2] at h4
  refine ⟨?_, h5⟩
  have en : ((a : Int)).natAbs = a := by omega
  have em : ((b : Int)).natAbs = b := by omega
  rw [en, em] at h4
  exact h4.same (Nat.mul_pos (by omega) U_pos) (by simp only [Nat.mul_assoc, Nat.mul_comm, Nat.mul_left_comm])

theorem parts_le_one {a b : Nat} (hab : a ≤ b) (hb : 1 ≤ b ∧ b ≤ 1000000) : quoW a b ≤ ONE :=
  (quoW_near a b (by omega) (by omega)).1.le (by omega) (by rw [val_ONE, Nat.mul_comm U]; exact Nat.mul_le_mul_right U hab)
theorem part_one {b : Nat} (hb : 1 ≤ b ∧ b ≤ 1000000) : quoW b b = ONE :=
  (quoW_near b b (by omega) (by omega)).1.exact (by omega) (by rw [val_ONE, Nat.mul_comm])
theorem val_below_one : Nat.ble (U * 999999) (val (ONE - 1) * 1000000) = true := by kernel_rfl
theorem part_less {a b : Nat} (hab : a < b) (hb : 1 ≤ b ∧ b ≤ 1000000) : quoW a b < ONE := by
  have h := (quoW_near a b (by omega) (by omega)).1.le (s := ONE - 1) (by omega) (by
    have h2 : a * 1000000 ≤ 999999 * b := by omega
    have h1 := Nat.le_of_ble_eq_true val_below_one
    have h3 : a * U * 1000000 ≤ val (ONE - 1) * b * 1000000 := by
      calc a * U * 1000000 = a * 1000000 * U := by rw [Nat.mul_right_comm]
        _ ≤ 999999 * b * U := Nat.mul_le_mul_right U h2
        _ = U * 999999 * b := by simp only [Nat.mul_assoc, Nat.mul_comm, Nat.mul_left_comm]
        _ ≤ val (ONE - 1) * 1000000 * b := Nat.mul_le_mul_right b h1
        _ = _ := by rw [Nat.mul_right_comm]
    exact Nat.le_of_mul_le_mul_right h3 (by decide))
  have : ONE = 4607182418800017408 := rfl
  omega
theorem part_zero {b : Nat} (hb : 1 ≤ b ∧ b ≤ 1000000) : quoW 0 b = 0 :=
  (quoW_near 0 b (by omega) (by omega)).1.exact (by omega) (by rw [val_zero, Nat.zero_mul, Nat.zero_mul])
theorem val_little : Nat.ble (val 1 * 1000000) U = true := by kernel_rfl
theorem part_pos {a b : Nat} (ha : 1 ≤ a) (hab : a ≤ b) (hb : 1 ≤ b ∧ b ≤ 1000000) : 1 ≤ quoW a b :=
  (quoW_near a b (by omega) (by omega)).1.ge (by omega) (by
    have h1 := Nat.le_of_ble_eq_true val_little
    calc val 1 * b ≤ val 1 * 1000000 := Nat.mul_le_mul_left _ hb.2
      _ ≤ U := h1
      _ ≤ a * U := Nat.le_mul_of_pos_left _ ha)

theorem arith_lo {A X G V : Nat} (h2 : 2 * A ≤ 2 * X + G) (h3 : G ≤ V) : A ≤ X + V := by omega
theorem arith_hi {A X G V : Nat} (h2 : 2 * X + G ≤ 2 * A) (h3 : G ≤ V) : X + G ≤ A + V := by omega
/-- how near a quotient is: within 2 to the -54th -/
theorem near_lo {a b : Nat} (hab : a ≤ b) (hb : 1 ≤ b ∧ b ≤ 1000000) : a * U * 9007199254740992 ≤ val (quoW a b) * b * 9007199254740992 + U * b := by
  by_cases h : quoW a b = ONE
  · rw [h, val_ONE]
    have : a * U ≤ U * b := by rw [Nat.mul_comm U]; exact Nat.mul_le_mul_right U hab
    have := Nat.mul_le_mul_right 9007199254740992 this
    exact Nat.le_trans this (Nat.le_add_right _ _)
  · have hk : quoW a b < ONE := by have := parts_le_one hab hb; omega
    have hg := gap_le hk
    obtain ⟨r1, _⟩ := (quoW_near a b (by omega) (by omega)).1
    have hs := val_succ (quoW a b)
    generalize val (quoW a b) = x at *
    generalize val (quoW a b + 1) = y at *
    obtain ⟨g, rfl⟩ : ∃ g, y = x + g := ⟨y - x, by omega⟩
    rw [Nat.add_sub_cancel_left] at hg
    have h1 : 2 * (a * U) ≤ (2 * x + g) * b := by rw [show 2 * x + g = x + (x + g) from by omega]; exact r1
    have h2 := Nat.mul_le_mul_right 9007199254740992 h1
    have h3 := Nat.mul_le_mul_right b hg
    have e1 : (2 * x + g) * b * 9007199254740992 = 2 * (x * b * 9007199254740992) + g * 9007199254740992 * b := by
      rw [Nat.add_mul, Nat.add_mul, Nat.mul_right_comm g]; simp only [Nat.mul_assoc]
    have e2 : 2 * (a * U) * 9007199254740992 = 2 * (a * U * 9007199254740992) := by simp only [Nat.mul_assoc]
    rw [e1, e2] at h2
    exact arith_lo h2 h3
theorem near_hi {a b : Nat} (hab : a ≤ b) (hb : 1 ≤ b ∧ b ≤ 1000000) : val (quoW a b) * b * 9007199254740992 ≤ a * U * 9007199254740992 + U * b := by
  by_cases h0 : quoW a b = 0
  · rw [h0, val_zero]; omega
  · obtain ⟨k, hk⟩ : ∃ k, quoW a b = k + 1 := ⟨quoW a b - 1, by omega⟩
    have hk1 : k < ONE := by have := parts_le_one hab hb; omega
    have hg := gap_le hk1
    obtain ⟨_, r2⟩ := (quoW_near a b (by omega) (by omega)).1
    have r2 := r2 (by omega)
    have hs := val_succ k
    rw [hk] at r2 ⊢
    rw [show k + 1 - 1 = k from rfl] at r2
    generalize val k = x at *
    generalize val (k + 1) = y at *
    obtain ⟨g, rfl⟩ : ∃ g, y = x + g := ⟨y - x, by omega⟩
    rw [Nat.add_sub_cancel_left] at hg
    have h1 : (2 * x + g) * b ≤ 2 * (a * U) := by rw [show 2 * x + g = x + (x + g) from by omega]; exact r2
    have h2 := Nat.mul_le_mul_right 9007199254740992 h1
    have h3 := Nat.mul_le_mul_right b hg
    have e1 : (2 * x + g) * b * 9007199254740992 = 2 * (x * b * 9007199254740992) + g * 9007199254740992 * b := by
      rw [Nat.add_mul, Nat.add_mul, Nat.mul_right_comm g]; simp only [Nat.mul_assoc]
    have e2 : 2 * (a * U) * 9007199254740992 = 2 * (a * U * 9007199254740992) := by simp only [Nat.mul_assoc]
    have e3 : (x + g) * b * 9007199254740992 = x * b * 9007199254740992 + g * 9007199254740992 * b := by
      rw [Nat.add_mul, Nat.add_mul, Nat.mul_right_comm g]
    rw [e1, e2] at h2
    rw [e3]
    exact arith_hi h2 h3

def C1 : Nat := 4607182409792818153
def C2 : Nat := 4607182423303617035
theorem val_C1 : Nat.ble (val (C1 + 1) * 9007199254740992 + 2 * U) (U * 9007199254740992) = true := by kernel_rfl
theorem val_C2 : Nat.ble (U * 9007199254740992 + 2 * U) (val (C2 - 1) * 9007199254740992) = true := by kernel_rfl
theorem arith_sum {X1 X2 A1 A2 V W : Nat} (h1 : A1 ≤ X1 + V) (h2 : A2 ≤ X2 + V) (h : A1 + A2 = W) : W ≤ X1 + X2 + 2 * V := by omega
theorem arith_sum' {X1 X2 A1 A2 V W : Nat} (h1 : X1 ≤ A1 + V) (h2 : X2 ≤ A2 + V) (h : A1 + A2 = W) : X1 + X2 ≤ W + 2 * V := by omega
theorem arith_c {c u v : Nat} (h1 : c + 2 * u ≤ v) {s : Nat} (h2 : v ≤ s + 2 * u) : c ≤ s := by omega
/-- two parts of a whole are one, nearly -/
theorem parts_sum {a b : Nat} (hab : a ≤ b) (hb : 1 ≤ b ∧ b ≤ 1000000) : ∃ z, fadd (quoW a b) (quoW ((b - a : Nat) : Int) b) = some z ∧ C1 < z ∧ z < C2 := by
  have hx := (quoW_near a b (by omega) (by omega)).2
  have hy := (quoW_near (b - a) b (by omega) (by omega)).2
  obtain ⟨k, hk, hr⟩ := fadd_plain hx hy
  have l1 := near_lo hab hb
  have l2 := near_lo (by omega : b - a ≤ b) hb
  have u1 := near_hi hab hb
  have u2 := near_hi (by omega : b - a ≤ b) hb
  have hW : a * U * 9007199254740992 + (b - a) * U * 9007199254740992 = U * 9007199254740992 * b := by
    rw [← Nat.add_mul, ← Nat.add_mul, show a + (b - a) = b from by omega, Nat.mul_assoc, Nat.mul_comm b]
  generalize quoW a b = x at *
  generalize quoW ((b - a : Nat) : Int) b = y at *
  have L := arith_sum l1 l2 hW
  have R := arith_sum' u1 u2 hW
  have e1 : val x * b * 9007199254740992 + val y * b * 9007199254740992 = (val x + val y) * 9007199254740992 * b := by
    rw [← Nat.add_mul, ← Nat.add_mul, Nat.mul_right_comm]
  rw [e1, ← Nat.mul_assoc 2, ← Nat.add_mul] at L R
  have L' := Nat.le_of_mul_le_mul_right L (by omega)
  have R' := Nat.le_of_mul_le_mul_right R (by omega)
  have c1 := arith_c (Nat.le_of_ble_eq_true val_C1) L'
  have c2 := Nat.le_trans R' (Nat.le_of_ble_eq_true val_C2)
  have c1' := Nat.le_of_mul_le_mul_right c1 (by decide)
  have c2' := Nat.le_of_mul_le_mul_right c2 (by decide)
  have k1 : C1 + 1 ≤ k := hr.ge (by decide) (by rw [Nat.mul_one]; exact c1')
  have k2 : k ≤ C2 - 1 := hr.le (by decide) (by rw [Nat.mul_one]; exact c2')
  have hC : C2 = 4607182423303617035 := rfl
  have hI : INF = 9218868437227405312 := rfl
  clear L R L' R' c1 c2 c1' c2' e1 hW l1 l2 u1 u2 hr
  refine ⟨k, ?_, k1, by omega⟩
  rw [hk, word_false, Nat.min_eq_left (by omega)]
end Go.Proofs.Ytfhcgnkjncfeiaa.Fl
