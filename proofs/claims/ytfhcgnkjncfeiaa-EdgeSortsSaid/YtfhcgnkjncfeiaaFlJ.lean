/- Plain facts on 64-bit floats: a number twice as large: products by two, quotients of what is twice as large. -/
import Derived.Test.YtfhcgnkjncfeiaaFlI
namespace Go.Proofs.Ytfhcgnkjncfeiaa.Fl
open Ieee

theorem nearest_up (m : Nat) (p : Int) (hm : 0 < m) (h : -1074 ≤ p + m.log2 - 52) : ∃ k, Ieee.double.nearest false m p = Ieee.double.word false (min k INF) ∧ Ieee.double.nearest false m (p + 1) = Ieee.double.word false (min (k + B) INF) := by
  unfold Format.nearest
  rw [if_neg (by omega), if_neg (by omega), lp_eq, binade_eq, infRung_eq]
  have f : ((Ieee.double.fractionBits : Nat) : Int) = 52 := rfl
  simp only [f]
  have e1 : max (p + m.log2 - 52) (-1074) = p + m.log2 - 52 := by omega
  have e2 : max (p + 1 + m.log2 - 52) (-1074) = p + 1 + m.log2 - 52 := by omega
  rw [e1, e2]
  have e3 : p + 1 - (p + 1 + m.log2 - 52) = p - (p + m.log2 - 52) := by omega
  have e4 : (p + 1 + m.log2 - 52) - (p + 1) = (p + m.log2 - 52) - p := by omega
  rw [e3, e4]
  refine ⟨_, rfl, ?_⟩
  have e5 : (p + 1 + m.log2 - 52 - -1074).toNat = (p + m.log2 - 52 - -1074).toNat + 1 := by omega
  rw [e5, Nat.add_mul, Nat.one_mul, Nat.add_right_comm]

theorem mag_up {r : Nat} (h : B ≤ r) : mag (r + B) = mag r := by
  unfold mag
  rw [if_neg (by omega), if_neg (by omega), Nat.add_mod_right]
theorem ex_up {r : Nat} (h : B ≤ r) : ex (r + B) = ex r + 1 := by
  unfold ex
  rw [Nat.add_div_right _ B_pos]
  have : 1 ≤ r / B := (Nat.le_div_iff_mul_le B_pos).2 (by omega)
  omega
theorem val_up {r : Nat} (h : B ≤ r) : val (r + B) = 2 * val r := by
  unfold val
  rw [mag_up h, ex_up h, Nat.pow_succ, ← Nat.mul_assoc, Nat.mul_comm]

/-- a quotient of what is twice as large is twice as large -/
theorem fdiv_up {x y : Nat} (hx : B ≤ x) (hx2 : x + B < INF) (hy : y < INF) (hy0 : 0 < y) (he : ex y ≤ ex x + 900) :
    ∃ k, fdiv x y = some (min k INF) ∧ fdiv (x + B) y = some (min (k + B) INF) := by
  obtain ⟨_, _, x1, x2⟩ := plain_fine (show x < INF by omega)
  obtain ⟨_, _, y1, y2⟩ := plain_fine hy
  obtain ⟨_, _, z1, z2⟩ := plain_fine hx2
  have hmy := mag_pos hy0
  have hmx := mag_pos (show 0 < x by have := B_pos; omega)
  unfold fdiv Format.div
  rw [read_num (x := x) (by rw [x2]; omega), read_num (x := y) (by rw [y2]; exact hy), read_num (x := x + B) (by rw [z2]; exact hx2), fb_eq, x1, y1, z1, x2, y2, z2, mag_up hx, ex_up hx]
  unfold Datum.quotient
  simp only [if_neg (Nat.pos_iff_ne_zero.1 hmy), Option.map_some, write_num]
  have hx53 : mag x < 2 * B := mag_lt x
  have hy53 : mag y < 2 * B := mag_lt y
  have lx : (mag x).log2 < 53 := (Nat.log2_lt (by omega)).2 (by unfold B at hx53; omega)
  have ly : (mag y).log2 < 53 := (Nat.log2_lt (by omega)).2 (by unfold B at hy53; omega)
  generalize hmo : 54 + (mag y).log2 - (mag x).log2 = more
  have hX : 2 ^ (mag x).log2 ≤ mag x := Nat.log2_self_le (by omega)
  have hY : mag y < 2 ^ ((mag y).log2 + 1) := Nat.lt_log2_self
  have hD : 2 ^ 53 * mag y ≤ mag x <<< more := by
    rw [Nat.shiftLeft_eq]
    calc 2 ^ 53 * mag y ≤ 2 ^ 53 * 2 ^ ((mag y).log2 + 1) := Nat.mul_le_mul_left _ (Nat.le_of_lt hY)
      _ = 2 ^ (53 + ((mag y).log2 + 1)) := by rw [← Nat.pow_add]
      _ ≤ 2 ^ ((mag x).log2 + more) := Nat.pow_le_pow_right (by decide) (by omega)
      _ = 2 ^ (mag x).log2 * 2 ^ more := by rw [Nat.pow_add]
      _ ≤ _ := Nat.mul_le_mul_right _ hX
  have hq : 2 ^ 53 ≤ mag x <<< more / mag y := (Nat.le_div_iff_mul_le hmy).2 hD
  generalize mag x <<< more / mag y = q at hq ⊢
  generalize (mag x <<< more % mag y != 0).toNat = s
  have h54 : (2 : Nat) ^ 54 ≤ 2 * q + s := by
    have : (2 : Nat) ^ 54 = 2 * 2 ^ 53 := by decide
    omega
  have hm54 : 54 ≤ (2 * q + s).log2 := (Nat.le_log2 (by omega)).2 h54
  obtain ⟨k, h1, h2⟩ := nearest_up (2 * q + s) (-1074 + (ex x : Nat) - (-1074 + (ex y : Nat)) - (more : Nat) - 1) (by omega) (by omega)
  refine ⟨k, ?_, ?_⟩
  · rw [Bool.xor_false, h1, word_false]
  · rw [← word_false (min (k + B) INF), ← h2, Bool.xor_false]
    have e : -1074 + ((ex x + 1 : Nat) : Int) - (-1074 + (ex y : Nat)) - (more : Nat) - 1 = -1074 + (ex x : Nat) - (-1074 + (ex y : Nat)) - (more : Nat) - 1 + 1 := by omega
    rw [e]
/-- of two that are twice as large, the same -/
theorem fdiv_both {x y : Nat} (hx : B ≤ x) (hx2 : x + B < INF) (hy : B ≤ y) (hy2 : y + B < INF) : fdiv (x + B) (y + B) = fdiv x y := by
  obtain ⟨_, _, x1, x2⟩ := plain_fine (show x < INF by omega)
  obtain ⟨_, _, y1, y2⟩ := plain_fine (show y < INF by omega)
  obtain ⟨_, _, z1, z2⟩ := plain_fine hx2
  obtain ⟨_, _, u1, u2⟩ := plain_fine hy2
  unfold fdiv Format.div
  rw [read_num (x := x) (by rw [x2]; omega), read_num (x := y) (by rw [y2]; omega), read_num (x := x + B) (by rw [z2]; exact hx2), read_num (x := y + B) (by rw [u2]; exact hy2), fb_eq, x1, y1, z1, u1, x2, y2, z2, u2, mag_up hx, ex_up hx, mag_up hy, ex_up hy]
  have e : ∀ a b more : Int, -1074 + (a + 1) - (-1074 + (b + 1)) - more - 1 = -1074 + a - (-1074 + b) - more - 1 := fun a b more => by omega
  unfold Datum.quotient
  simp only [Int.natCast_add, Int.cast_ofNat_Int, e]

def fmul (x y : Nat) : Option Nat := Ieee.double.mul x y
/-- twice -/
def TWO : Nat := 4611686018427387904
def FOUR : Nat := 4616189618054758400
theorem mul_pow {c x s r : Nat} (hc : c < INF) (hs : c = (1022 + s) * B + B) (hx : x < INF) (hr : r < INF) (hv : val r = 2 ^ s * val x) : fmul c x = some r := by
  obtain ⟨_, _, x1, x2⟩ := plain_fine hx
  obtain ⟨_, _, c1, c2⟩ := plain_fine hc
  unfold fmul Format.mul
  rw [read_num (x := x) (by rw [x2]; exact hx), read_num (x := c) (by rw [c2]; exact hc), x1, c1, x2, c2]
  have mc : mag c = B := by
    unfold mag; rw [if_neg (by have := B_pos; omega), hs, Nat.add_mod_right, Nat.mul_mod_left]; rfl
  have ec : ex c = 1022 + s := by
    unfold ex; rw [hs, Nat.add_div_right _ B_pos, Nat.mul_div_cancel _ B_pos]; omega
  rw [mc, ec]
  show some (Ieee.double.write (Datum.number (false ^^ false) (B * mag x) (-1074 + ((1022 + s : Nat) : Int) + (-1074 + (ex x : Nat))))) = some r
  rw [write_num, Bool.xor_false, nearest_exact false _ _ r (by omega) ?_, word_false]
  intro L d h
  have hL : L + 52 = s + ex x + d := by omega
  rw [hv]
  show B * mag x * 2 ^ L = 2 ^ s * (mag x * 2 ^ ex x) * 2 ^ d
  have e1 : B * mag x * 2 ^ L = mag x * 2 ^ (L + 52) := by
    rw [Nat.pow_add, B_eq, Nat.mul_comm (2 ^ 52), Nat.mul_assoc, Nat.mul_comm (2 ^ 52)]
  rw [e1, hL, Nat.pow_add, Nat.pow_add]
  simp only [Nat.mul_assoc, Nat.mul_comm, Nat.mul_left_comm]
theorem mul_two {x : Nat} (hx : B ≤ x) (hx2 : x + B < INF) : fmul TWO x = some (x + B) :=
  mul_pow (s := 1) (by decide) (by decide) (by omega) hx2 (by rw [val_up hx])
theorem mul_four {x : Nat} (hx : B ≤ x) (hx2 : x + B + B < INF) : fmul FOUR x = some (x + B + B) :=
  mul_pow (s := 2) (by decide) (by decide) (by omega) hx2 (by rw [val_up (by omega), val_up hx, ← Nat.mul_assoc])
theorem mul_nought {c s : Nat} (hc : c < INF) (hs : c = (1022 + s) * B + B) : fmul c 0 = some 0 :=
  mul_pow (s := s) hc hs (by decide) (by decide) (by rw [val_zero, Nat.mul_zero])
end Go.Proofs.Ytfhcgnkjncfeiaa.Fl
