/- Plain facts on 64-bit floats: a sum of two that are not below nought is a nearest rung. -/
import Derived.Test.YtfhcgnkjncfeiaaFlG
namespace Go.Proofs.Ytfhcgnkjncfeiaa.Fl
open Ieee

theorem fadd_plain {x y : Nat} (hx : x < INF) (hy : y < INF) : ∃ k, fadd x y = some (Ieee.double.word false (min k INF)) ∧ Rnd k (val x + val y) 1 := by
  obtain ⟨_, _, sx, rx⟩ := plain_fine hx
  obtain ⟨_, _, sy, ry⟩ := plain_fine hy
  unfold fadd Format.add
  rw [read_num (by rw [rx]; exact hx), read_num (by rw [ry]; exact hy)]
  unfold Datum.sum
  rw [sx, sy, rx, ry]
  simp only [Option.map_some, write_num]
  generalize ht : min (-1074 + (ex x : Int)) (-1074 + (ex y : Int)) = base
  obtain ⟨t, htb⟩ : ∃ t : Nat, base = -1074 + (t : Int) := ⟨min (ex x) (ex y), by omega⟩
  have a1 : (-1074 + (ex x : Int) - base).toNat = ex x - t := by omega
  have a2 : (-1074 + (ex y : Int) - base).toNat = ex y - t := by omega
  rw [a1, a2]
  have b1 := signed_val false x t (by omega)
  have b2 := signed_val false y t (by omega)
  simp only [Bool.false_eq_true, if_false] at b1 b2
  have s1 : 0 ≤ signed false (mag x) (ex x - t) := by unfold signed; simp only [Bool.false_eq_true, if_false]; exact Int.natCast_nonneg _
  have s2 : 0 ≤ signed false (mag y) (ex y - t) := by unfold signed; simp only [Bool.false_eq_true, if_false]; exact Int.natCast_nonneg _
  generalize signed false (mag x) (ex x - t) = S at b1 s1 ⊢
  generalize signed false (mag y) (ex y - t) = T at b2 s2 ⊢
  have hneg : (if S + T = 0 then false && false else decide (S + T < 0)) = false := by
    split
    · rfl
    · exact decide_eq_false (by omega)
  rw [hneg]
  have hsum : (S + T).natAbs * 2 ^ t = val x + val y := by
    have e : ((S + T).natAbs : Int) = S + T := by omega
    have : (((S + T).natAbs * 2 ^ t : Nat) : Int) = ((val x + val y : Nat) : Int) := by
      rw [Int.natCast_mul, e, Int.natCast_add, ← b1, ← b2, ← Int.add_mul]
      simp
    exact Int.ofNat.inj this
  by_cases h0 : (S + T).natAbs = 0
  · rw [h0, Nat.zero_mul] at hsum
    refine ⟨0, ?_, ?_⟩
    · rw [h0, nearest_zero, Nat.zero_min]
    · rw [← hsum]; exact ⟨by omega, fun h => absurd h (by omega)⟩
  · obtain ⟨k, hk, hr⟩ := nearest_real false (S + T).natAbs base (S + T).natAbs 1 (by omega) (by decide) (Or.inl (by omega))
    refine ⟨k, by rw [hk], hr _ _ (by decide) fun L d hLd => ?_⟩
    have e : L = t + d := by omega
    rw [e, ← hsum, Nat.pow_add]
    simp only [Nat.mul_one, Nat.mul_assoc]

/-- the gap behind a rung up to one: no more than 2 to the -53rd -/
theorem gap_le {k : Nat} (h : k < ONE) : (val (k + 1) - val k) * 9007199254740992 ≤ U := by
  obtain ⟨L, m, e, hm, hL, h4, h5⟩ := rung_split k
  have hO : ONE = 1022 * B + B := by decide
  have hLB : L ≤ 1021 := by
    by_cases h' : L ≤ 1021
    · exact h'
    · exfalso
      have h1 : 1022 * B ≤ L * B := Nat.mul_le_mul_right B (by omega)
      rcases hL with h2 | h2
      · omega
      · omega
  have v0 : val k = m * 2 ^ L := by rw [e]; exact val_at L m (by omega) hL
  have v1 : val (k + 1) = (m + 1) * 2 ^ L := by rw [e, Nat.add_assoc]; exact val_at L (m + 1) (by omega) (by omega)
  have hg : val (k + 1) - val k = 2 ^ L := by rw [v0, v1, Nat.add_mul]; omega
  rw [hg]
  have e2 : (9007199254740992 : Nat) = 2 ^ 53 := by decide
  rw [e2, ← Nat.pow_add, U_split (a := L + 53) (b := 1074 - (L + 53)) (by omega)]
  exact Nat.le_mul_of_pos_right _ (Nat.two_pow_pos _)
end Go.Proofs.Ytfhcgnkjncfeiaa.Fl
