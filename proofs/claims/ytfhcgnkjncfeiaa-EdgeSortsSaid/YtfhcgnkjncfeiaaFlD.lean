/- Plain facts on 64-bit floats: what a rounded number and a quotient are: a nearest rung. -/
import Derived.Test.YtfhcgnkjncfeiaaFlC
namespace Go.Proofs.Ytfhcgnkjncfeiaa.Fl
open Ieee

/-- rounding, of a number that stands for 'X / Y' (with a last digit that tells that something is left over) -/
theorem nearest_real (neg : Bool) (m : Nat) (p : Int) (X Y : Nat) (hm : 0 < m) (hY : 0 < Y)
    (hx : X = m * Y ∨ (m % 2 = 1 ∧ 54 ≤ m.log2 ∧ (m - 1) * Y < X ∧ X < (m + 1) * Y)) :
    ∃ k, Ieee.double.nearest neg m p = Ieee.double.word neg (min k INF) ∧ ∀ a b : Nat, 0 < b → (∀ L d : Nat, p + 1074 + d = L → a * 2 ^ d * Y = X * 2 ^ L * b) → Rnd k a b := by
  obtain ⟨L, k, n, d, h1, h2, h3, h4, h5, h6, h7⟩ := nearest_parts neg m p hm
  refine ⟨L * B + k, h1, fun a b hb hab => ?_⟩
  have c := cut_even neg n d
  rw [← h2] at c
  have hW : 0 < 2 ^ L * b := Nat.mul_pos (Nat.two_pow_pos L) hb
  rcases hx with hx | ⟨ho, hl, hlo, hhi⟩
  · -- nothing left over
    have key : a * 2 ^ d = n * (2 ^ L * b) := by
      refine Nat.eq_of_mul_eq_mul_right hY ?_
      rcases h6 with ⟨rfl, u, rfl, hu⟩ | ⟨rfl, hd⟩
      · have := hab (L + u) 0 (by omega)
        rw [this, hx, Nat.pow_add]
        simp only [Nat.mul_assoc, Nat.mul_comm, Nat.mul_left_comm]
      · have := hab L d hd
        rw [this, hx]
        simp only [Nat.mul_assoc, Nat.mul_comm, Nat.mul_left_comm]
    refine rnd_of_cut (d := d) h3 h4 ?_ ?_ ?_
    · rw [Nat.mul_assoc 2 a, key, ← Nat.mul_assoc 2 n]
      exact Nat.mul_le_mul_right _ c.1
    · rw [Nat.mul_assoc 2 a, key, ← Nat.mul_assoc 2 n, ← Nat.add_mul]
      exact Nat.mul_le_mul_right _ c.2.1
    · intro hL
      refine Nat.le_of_mul_le_mul_right ?_ (Nat.two_pow_pos d)
      rw [key]
      calc B * 2 ^ L * b * 2 ^ d = B * 2 ^ d * (2 ^ L * b) := by simp only [Nat.mul_assoc, Nat.mul_comm, Nat.mul_left_comm]
        _ ≤ n * (2 ^ L * b) := Nat.mul_le_mul_right _ (h5 hL)
  · -- something is left over
    have hd : n = m ∧ p + 1074 + d = L ∧ 2 ≤ d := by
      rcases h6 with ⟨rfl, u, rfl, hu⟩ | ⟨rfl, hd⟩
      · omega
      · exact ⟨rfl, hd, by omega⟩
    obtain ⟨rfl, hd, hd2⟩ := hd
    have key := hab L d hd
    have c' := cut_even_odd neg n d ho hd2
    rw [← h2] at c'
    have e2 : 2 ^ d % 2 = 0 := by
      obtain ⟨j, rfl⟩ : ∃ j, d = j + 1 := ⟨d - 1, by omega⟩
      rw [Nat.pow_succ]; omega
    have hT : 0 < 2 ^ d := Nat.two_pow_pos d
    have key' : a * 2 ^ d * Y = X * (2 ^ L * b) := by rw [key, Nat.mul_assoc]
    have q1 : X ≤ n * Y + Y := by rw [← Nat.succ_mul]; exact Nat.le_of_lt hhi
    have q2 : n * Y ≤ X + Y := by
      obtain ⟨j, rfl⟩ : ∃ j, n = j + 1 := ⟨n - 1, by omega⟩
      rw [Nat.succ_mul]; have : j + 1 - 1 = j := by omega
      rw [this] at hlo; omega
    refine rnd_of_cut (d := d) h3 h4 ?_ ?_ ?_
    · refine Nat.le_of_mul_le_mul_right ?_ hY
      have e1 := Nat.mul_le_mul_right Y c'.1
      have e2 : 2 * X ≤ (2 * k + 1) * 2 ^ d * Y := by
        rw [Nat.add_mul, Nat.mul_assoc 2 n] at e1; omega
      have e3 := Nat.mul_le_mul_right (2 ^ L * b) e2
      calc 2 * a * 2 ^ d * Y = 2 * (a * 2 ^ d * Y) := by simp only [Nat.mul_assoc]
        _ = 2 * X * (2 ^ L * b) := by rw [key', Nat.mul_assoc]
        _ ≤ (2 * k + 1) * 2 ^ d * Y * (2 ^ L * b) := e3
        _ = _ := by rw [Nat.mul_right_comm]
    · refine Nat.le_of_mul_le_mul_right ?_ hY
      have e1 := Nat.mul_le_mul_right Y c'.2
      have e2 : 2 * k * 2 ^ d * Y ≤ 2 * X + 2 ^ d * Y := by
        rw [Nat.add_mul, Nat.add_mul, Nat.mul_assoc 2 n] at e1; omega
      have e3 := Nat.mul_le_mul_right (2 ^ L * b) e2
      calc 2 * k * 2 ^ d * (2 ^ L * b) * Y = 2 * k * 2 ^ d * Y * (2 ^ L * b) := by rw [Nat.mul_right_comm]
        _ ≤ (2 * X + 2 ^ d * Y) * (2 ^ L * b) := e3
        _ = 2 * (a * 2 ^ d * Y) + 2 ^ d * Y * (2 ^ L * b) := by rw [key', Nat.add_mul, Nat.mul_assoc]
        _ = _ := by rw [Nat.add_mul, Nat.mul_right_comm (2 ^ d) Y]; simp only [Nat.mul_assoc]
    · intro hL
      refine Nat.le_of_mul_le_mul_right ?_ (Nat.mul_pos hT hY)
      have g := h5 hL
      have g2 : B * 2 ^ d ≤ n - 1 := by
        have : B * 2 ^ d % 2 = 0 := by rw [Nat.mul_mod, e2]; simp
        omega
      have e1 := Nat.mul_le_mul_right Y g2
      have e2 := Nat.mul_le_mul_right (2 ^ L * b) (Nat.le_trans e1 (Nat.le_of_lt hlo))
      calc B * 2 ^ L * b * (2 ^ d * Y) = B * 2 ^ d * Y * (2 ^ L * b) := by simp only [Nat.mul_assoc, Nat.mul_comm, Nat.mul_left_comm]
        _ ≤ X * (2 ^ L * b) := e2
        _ = a * 2 ^ d * Y := key'.symm
        _ = a * (2 ^ d * Y) := by rw [Nat.mul_assoc]

theorem nearest_zero (neg : Bool) (p : Int) : Ieee.double.nearest neg 0 p = Ieee.double.word neg 0 := by
  unfold Format.nearest; rw [if_pos rfl]
theorem write_num (neg : Bool) (m : Nat) (p : Int) : Ieee.double.write (.number neg m p) = Ieee.double.nearest neg m p := rfl
theorem fb_eq : Ieee.double.fractionBits + 2 = 54 := rfl
/-- the sign of a quotient -/
theorem div_num {x y : Nat} (hx : rg x < INF) (hy : rg y < INF) (hy0 : 0 < rg y) :
    ∃ k, Ieee.double.div x y = some (Ieee.double.word (sg x ^^ sg y) (min k INF)) ∧ Rnd k (val (rg x) * 2 ^ 1074) (val (rg y)) := by
  have hmy := mag_pos hy0
  unfold Format.div
  rw [read_num hx, read_num hy, fb_eq]
  unfold Datum.quotient
  simp only [if_neg (Nat.pos_iff_ne_zero.1 hmy), Option.map_some, write_num]
  by_cases hx0 : rg x = 0
  · refine ⟨0, ?_, ?_⟩
    · have : mag (rg x) = 0 := by rw [hx0]; decide
      rw [this]
      simp only [Nat.zero_shiftLeft, Nat.zero_div, Nat.zero_mod]
      rw [show 2 * 0 + ((0 : Nat) != 0).toNat = 0 from by decide, nearest_zero, Nat.zero_min]
    · rw [hx0, val_zero]; exact ⟨by omega, fun h => absurd h (by omega)⟩
  · have hmx := mag_pos (Nat.pos_of_ne_zero hx0)
    generalize hmo : 54 + (mag (rg y)).log2 - (mag (rg x)).log2 = more
    have hX : 2 ^ (mag (rg x)).log2 ≤ mag (rg x) := Nat.log2_self_le (by omega)
    have hY : mag (rg y) < 2 ^ ((mag (rg y)).log2 + 1) := Nat.lt_log2_self
    have hD : 2 ^ 53 * mag (rg y) ≤ mag (rg x) <<< more := by
      rw [Nat.shiftLeft_eq]
      calc 2 ^ 53 * mag (rg y) ≤ 2 ^ 53 * 2 ^ ((mag (rg y)).log2 + 1) := Nat.mul_le_mul_left _ (Nat.le_of_lt hY)
        _ = 2 ^ (53 + ((mag (rg y)).log2 + 1)) := by rw [← Nat.pow_add]
        _ ≤ 2 ^ ((mag (rg x)).log2 + more) := Nat.pow_le_pow_right (by decide) (by omega)
        _ = 2 ^ (mag (rg x)).log2 * 2 ^ more := by rw [Nat.pow_add]
        _ ≤ _ := Nat.mul_le_mul_right _ hX
    have hq : 2 ^ 53 ≤ mag (rg x) <<< more / mag (rg y) := (Nat.le_div_iff_mul_le hmy).2 hD
    have hdm := Nat.div_add_mod (mag (rg x) <<< more) (mag (rg y))
    have hml := Nat.mod_lt (mag (rg x) <<< more) hmy
    have hs : ((mag (rg x) <<< more % mag (rg y) != 0).toNat = 0 ∧ mag (rg x) <<< more % mag (rg y) = 0) ∨ ((mag (rg x) <<< more % mag (rg y) != 0).toNat = 1 ∧ 0 < mag (rg x) <<< more % mag (rg y)) := by
      by_cases h : mag (rg x) <<< more % mag (rg y) = 0
      · left; rw [h]; exact ⟨rfl, rfl⟩
      · right; refine ⟨?_, by omega⟩; simp [h]
    have hP : (2 : Nat) ^ 53 = 9007199254740992 := by decide
    generalize hDD : mag (rg x) <<< more = D at *
    generalize hq' : D / mag (rg y) = q at *
    generalize hr' : D % mag (rg y) = r at *
    obtain ⟨k, hk1, hk2⟩ := nearest_real (sg x ^^ sg y) (2 * q + (r != 0).toNat) (-1074 + ↑(ex (rg x)) - (-1074 + ↑(ex (rg y))) - ↑more - 1) (2 * D) (mag (rg y)) (by omega) hmy (by
      have e0 : (2 * q) * mag (rg y) = 2 * (mag (rg y) * q) := by rw [Nat.mul_comm (mag (rg y)), Nat.mul_assoc]
      rcases hs with ⟨h1, h2⟩ | ⟨h1, h2⟩
      · left; rw [h1, Nat.add_zero, e0]; omega
      · right; rw [h1]
        refine ⟨by omega, ?_, ?_, ?_⟩
        · rw [Nat.le_log2 (by omega)]
          have : (2 : Nat) ^ 54 = 18014398509481984 := by decide
          omega
        · rw [Nat.add_sub_cancel, e0]; omega
        · have : (2 * q + 1 + 1) * mag (rg y) = 2 * (mag (rg y) * q) + 2 * mag (rg y) := by
            rw [show 2 * q + 1 + 1 = 2 * q + 2 from rfl, Nat.add_mul, e0]
          rw [this]; omega)
    refine ⟨k, by rw [hk1], hk2 _ _ (val_pos hy0) fun L d hLd => ?_⟩
    rw [Nat.shiftLeft_eq] at hDD
    rw [← hDD]
    unfold val
    have e : ex (rg x) + 1074 + d = 1 + more + L + ex (rg y) := by omega
    calc mag (rg x) * 2 ^ ex (rg x) * 2 ^ 1074 * 2 ^ d * mag (rg y) = mag (rg x) * mag (rg y) * 2 ^ (ex (rg x) + 1074 + d) := by
          rw [Nat.pow_add, Nat.pow_add]; simp only [Nat.mul_assoc, Nat.mul_comm, Nat.mul_left_comm]
      _ = mag (rg x) * mag (rg y) * 2 ^ (1 + more + L + ex (rg y)) := by rw [e]
      _ = _ := by rw [Nat.pow_add, Nat.pow_add, Nat.pow_add, Nat.pow_one]; simp only [Nat.mul_assoc, Nat.mul_comm, Nat.mul_left_comm]
end Go.Proofs.Ytfhcgnkjncfeiaa.Fl
