/- Plain facts on 64-bit floats: any whole number's word, and quotients of whole numbers. -/
import Derived.Test.YtfhcgnkjncfeiaaFlF
namespace Go.Proofs.Ytfhcgnkjncfeiaa.Fl
open Ieee

/-- any whole number: a nearest rung -/
theorem flInt_any (n : Int) (h : n.natAbs ≤ 9223372036854775808) : ∃ r, r < INF ∧ flInt n = Ieee.double.word (decide (n < 0)) r ∧ Rnd r (n.natAbs * U) 1 := by
  by_cases h0 : n = 0
  · subst h0
    refine ⟨0, by decide, nearest_zero _ _, ?_, fun h => absurd h (by omega)⟩
    simp
  · obtain ⟨k, hk, hr⟩ := nearest_real (decide (n < 0)) n.natAbs 0 n.natAbs 1 (by omega) (by decide) (Or.inl (by omega))
    have hR : Rnd k (n.natAbs * U) 1 := hr _ _ (by decide) fun L d hLd => by
      have e : L = d + 1074 := by omega
      rw [e, pow_U rfl]
      simp only [Nat.mul_one, Nat.mul_assoc, Nat.mul_comm, Nat.mul_left_comm]
    have hs : k ≤ 1085 * B + B := by
      refine hR.le (by decide) ?_
      rw [val_pow (n := 1137) (by decide), pow_U (n := 1137) (a := 63) (by decide), Nat.mul_one]
      have e : (2 : Nat) ^ 63 = 9223372036854775808 := by decide
      rw [e]
      exact Nat.mul_le_mul_right U h
    have hI : 1085 * B + B < INF := by decide
    refine ⟨k, by omega, ?_, hR⟩
    show Ieee.double.nearest _ _ _ = _
    rw [hk, Nat.min_eq_left (by omega)]

/-- a quotient of whole numbers, as a word -/
def quoW (a b : Int) : Nat := (fdiv (flInt a) (flInt b)).getD 0
theorem word_false (r : Nat) : Ieee.double.word false r = r := by rw [word_eq]; rfl
theorem quoW_rnd (a b : Int) (ha : 0 ≤ a ∧ a ≤ 9223372036854775808) (hb : 1 ≤ b ∧ b ≤ 9007199254740992) :
    ∃ ra q, Rnd ra (a.natAbs * U) 1 ∧ ra < INF ∧ flInt a = ra ∧ Rnd q (val ra * U) (b.natAbs * U) ∧ q < INF ∧ fdiv (flInt a) (flInt b) = some q ∧ quoW a b = q := by
  obtain ⟨ra, a1, a2, a3⟩ := flInt_any a (by omega)
  obtain ⟨rb, b1, b2, b3⟩ := flInt_word b (by omega)
  rw [decide_eq_false (by omega : ¬ a < 0), word_false] at a2
  rw [decide_eq_false (by omega : ¬ b < 0), word_false] at b3
  have hI := INF_lt
  have ra' : rg (flInt a) = ra := by rw [a2]; unfold rg; omega
  have rb' : rg (flInt b) = rb := by rw [b3]; unfold rg; omega
  have sa' : sg (flInt a) = false := by rw [a2]; unfold sg; rw [Nat.div_eq_of_lt (by omega)]; rfl
  have sb' : sg (flInt b) = false := by rw [b3]; unfold sg; rw [Nat.div_eq_of_lt (by omega)]; rfl
  have hvb : U ≤ val rb := by
    rw [b2]; have := Nat.mul_le_mul_right U (by omega : 1 ≤ b.natAbs); omega
  have hb0 : 0 < rb := by
    rcases Nat.eq_zero_or_pos rb with h | h
    · rw [h, val_zero] at hvb; have := U_pos; omega
    · exact h
  obtain ⟨k, hk, hr⟩ := fdiv_num (x := flInt a) (y := flInt b) (by rw [ra']; exact a1) (by rw [rb']; exact b1) (by rw [rb']; exact hb0)
  rw [ra', rb'] at hr
  have hkl : k ≤ ra := hr.le (val_pos hb0) (Nat.mul_le_mul_left _ hvb)
  rw [sa', sb', Nat.min_eq_left (by omega)] at hk
  have hk' : fdiv (flInt a) (flInt b) = some k := by rw [hk]; exact congrArg some (word_false k)
  refine ⟨ra, k, a3, a1, a2, ?_, by omega, hk', ?_⟩
  · rw [b2] at hr; exact hr
  · unfold quoW; rw [hk']; rfl
theorem plain_fine {r : Nat} (h : r < INF) : Wd r ∧ isnan r = false ∧ sg r = false ∧ rg r = r := by
  have hI := INF_lt
  have h1 : rg r = r := by unfold rg; omega
  refine ⟨by unfold Wd; omega, ?_, ?_, h1⟩
  · rw [isnan_not, h1]; omega
  · unfold sg; rw [Nat.div_eq_of_lt (by omega)]; rfl
end Go.Proofs.Ytfhcgnkjncfeiaa.Fl
