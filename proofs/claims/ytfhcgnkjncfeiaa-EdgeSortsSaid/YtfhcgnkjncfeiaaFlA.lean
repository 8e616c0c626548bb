/- Plain facts on 64-bit floats, no Go in sight: a word's rung and sign, the value of a rung in units of the least place, the order of two words. -/
import Derived.Laws.FloatBits
namespace Go.Proofs.Ytfhcgnkjncfeiaa.Fl
open Ieee

/-- rungs to a binade -/
def B : Nat := 4503599627370496
theorem B_eq : B = 2 ^ 52 := by decide
theorem B_pos : 0 < B := by decide
theorem binade_eq : Ieee.double.binade = B := by decide
/-- the rung of infinity -/
def INF : Nat := 9218868437227405312
theorem INF_eq : INF = 2047 * B := by decide
theorem infRung_eq : Ieee.double.infRung = INF := by decide
theorem sw_eq : Ieee.double.signWeight = 9223372036854775808 := by decide
theorem lp_eq : Ieee.double.leastPlace = -1074 := by decide

/-- the rung of a word -/
def rg (x : Nat) : Nat := x % 9223372036854775808
/-- the sign of a word -/
def sg (x : Nat) : Bool := x / 9223372036854775808 % 2 == 1
/-- the significand of a rung -/
def mag (r : Nat) : Nat := if r < B then r else B + r % B
/-- the exponent of a rung, above the least place -/
def ex (r : Nat) : Nat := r / B - 1
/-- the value of a rung in units of the least place -/
def val (r : Nat) : Nat := mag r * 2 ^ ex r

theorem rg_lt (x : Nat) : rg x < 9223372036854775808 := Nat.mod_lt _ (by decide)

theorem read_num {x : Nat} (h : rg x < INF) : Ieee.double.read x = .number (sg x) (mag (rg x)) (-1074 + (ex (rg x) : Nat)) := by
  unfold Format.read
  simp only [sw_eq, binade_eq, infRung_eq, lp_eq]
  show (if rg x < B then _ else _) = _
  by_cases h1 : rg x < B
  · rw [if_pos h1]
    have : ex (rg x) = 0 := by unfold ex; rw [Nat.div_eq_of_lt h1]
    rw [this, mag, if_pos h1]; rfl
  · rw [if_neg h1]
    have h' : x % 9223372036854775808 < INF := h
    rw [if_pos h', mag, if_neg h1]; rfl
theorem read_inf {x : Nat} (h : rg x = INF) : Ieee.double.read x = .infinity (sg x) := by
  unfold Format.read
  simp only [sw_eq, binade_eq, infRung_eq, lp_eq]
  have h0 : x % 9223372036854775808 = INF := h
  have hB : ¬ INF < B := by decide
  rw [h0, if_neg hB, if_neg (Nat.lt_irrefl _), if_pos rfl]; rfl
theorem read_nan {x : Nat} (h : INF < rg x) : Ieee.double.read x = .nan (sg x) (rg x - INF) := by
  unfold Format.read
  simp only [sw_eq, binade_eq, infRung_eq, lp_eq]
  have h0 : INF < x % 9223372036854775808 := h
  have hB : B < INF := by decide
  rw [if_neg (by omega), if_neg (by omega), if_neg (by omega)]; rfl

theorem div_B_lt {r : Nat} (h : r < B) : r / B = 0 := Nat.div_eq_of_lt h
theorem val_lt_B {r : Nat} (h : r < B) : val r = r := by
  unfold val mag ex; rw [if_pos h, div_B_lt h]; simp
theorem mag_lt (r : Nat) : mag r < 2 * B := by
  unfold mag
  have := Nat.mod_lt r B_pos
  split <;> omega
theorem mag_ge {r : Nat} (h : B ≤ r) : B ≤ mag r := by
  unfold mag; rw [if_neg (by omega)]; omega
theorem mag_pos {r : Nat} (h : 0 < r) : 0 < mag r := by
  unfold mag; have := B_pos; split <;> omega

/-- the rung of a significand at an exponent: also one past the end of a binade -/
theorem val_at (L k : Nat) (hk : k ≤ 2 * B) (h : L = 0 ∨ B ≤ k) : val (L * B + k) = k * 2 ^ L := by
  have hB := B_pos
  by_cases h0 : L * B + k < B
  · have hL : L = 0 := by
      cases L with
      | zero => rfl
      | succ L => exfalso; rw [Nat.succ_mul] at h0; omega
    subst hL
    rw [val_lt_B h0]; simp
  · unfold val mag ex
    rw [if_neg h0]
    by_cases h2 : k = 2 * B
    · subst h2
      have e : L * B + 2 * B = (L + 2) * B := by rw [Nat.add_mul]
      rw [e, Nat.mul_mod_left, Nat.mul_div_cancel _ hB]
      show (B + 0) * 2 ^ (L + 1) = 2 * B * 2 ^ L
      rw [Nat.pow_succ, Nat.add_zero, Nat.mul_comm (2 ^ L) 2, ← Nat.mul_assoc, Nat.mul_comm B 2]
    · have hk1 : B ≤ k := by
        rcases h with h | h
        · subst h; omega
        · exact h
      obtain ⟨m, rfl⟩ : ∃ m, k = B + m := ⟨k - B, by omega⟩
      have hm : m < B := by omega
      have e : L * B + (B + m) = B * (L + 1) + m := by rw [Nat.mul_add, Nat.mul_comm]; omega
      rw [e, Nat.mul_add_mod, Nat.mod_eq_of_lt hm, Nat.mul_add_div hB, Nat.div_eq_of_lt hm]
      simp

theorem rung_split (r : Nat) : ∃ L k, r = L * B + k ∧ k < 2 * B ∧ (L = 0 ∨ B ≤ k) ∧ mag r = k ∧ ex r = L := by
  have hB := B_pos
  by_cases h : r < B
  · exact ⟨0, r, by omega, by omega, Or.inl rfl, by unfold mag; rw [if_pos h], by unfold ex; rw [div_B_lt h]⟩
  · have h1 : 1 ≤ r / B := (Nat.le_div_iff_mul_le hB).2 (by omega)
    have h2 := Nat.mod_lt r hB
    have h3 := Nat.div_add_mod r B
    refine ⟨r / B - 1, B + r % B, ?_, by omega, Or.inr (by omega), by unfold mag; rw [if_neg h], rfl⟩
    obtain ⟨q, hq⟩ : ∃ q, r / B = q + 1 := ⟨r / B - 1, by omega⟩
    rw [hq] at h3 ⊢
    rw [Nat.mul_comm, Nat.add_mul] at h3
    simp only [Nat.add_sub_cancel]
    omega

theorem val_succ (r : Nat) : val r < val (r + 1) := by
  have hB := B_pos
  obtain ⟨L, k, rfl, hk, h, _, _⟩ := rung_split r
  rw [val_at L k (by omega) h, Nat.add_assoc, val_at L (k + 1) (by omega) (by omega)]
  exact Nat.mul_lt_mul_of_pos_right (by omega) (Nat.two_pow_pos _)
theorem val_lt {r s : Nat} (h : r < s) : val r < val s := by
  induction s with
  | zero => omega
  | succ s ih =>
    by_cases e : r = s
    · subst e; exact val_succ r
    · exact Nat.lt_trans (ih (by omega)) (val_succ s)
theorem val_le {r s : Nat} (h : r ≤ s) : val r ≤ val s := by
  rcases Nat.lt_or_eq_of_le h with h | h
  · exact Nat.le_of_lt (val_lt h)
  · subst h; exact Nat.le_refl _
theorem val_lt_iff {r s : Nat} : val r < val s ↔ r < s := by
  refine ⟨fun h => ?_, val_lt⟩
  rcases Nat.lt_or_ge r s with h' | h'
  · exact h'
  · have := val_le h'; omega
theorem val_inj {r s : Nat} (h : val r = val s) : r = s := by
  rcases Nat.lt_trichotomy r s with h' | h' | h'
  · have := val_lt h'; omega
  · exact h'
  · have := val_lt h'; omega
theorem val_zero : val 0 = 0 := by rw [val_lt_B B_pos]
theorem val_pos {r : Nat} (h : 0 < r) : 0 < val r := by have := val_lt h; omega

/-- a word's place in the order: the rung, with its sign -/
def key (x : Nat) : Int := if sg x then -(rg x : Int) else rg x

theorem compare_same {a b c d : Int} (h1 : a < b ↔ c < d) (h2 : a = b ↔ c = d) : compare a b = compare c d := by
  show compareOfLessAndEq a b = compareOfLessAndEq c d
  unfold compareOfLessAndEq
  by_cases x : a < b
  · rw [if_pos x, if_pos (h1.1 x)]
  · rw [if_neg x, if_neg (fun y => x (h1.2 y))]
    by_cases z : a = b
    · rw [if_pos z, if_pos (h2.1 z)]
    · rw [if_neg z, if_neg (fun y => z (h2.2 y))]

theorem signed_val (s : Bool) (r m : Nat) (hm : m ≤ ex r) : signed s (mag r) (ex r - m) * 2 ^ m = (if s then -(val r : Int) else val r) := by
  have e : (mag r <<< (ex r - m)) * 2 ^ m = val r := by
    rw [Nat.shiftLeft_eq, Nat.mul_assoc, ← Nat.pow_add, Nat.sub_add_cancel hm]; rfl
  unfold signed
  cases s
  · simp only [Bool.false_eq_true, if_false]; rw [← e]; push_cast; rfl
  · simp only [if_true]; rw [← e]; push_cast; rw [Int.neg_mul]

/-- the value of a word, with its sign -/
def sval (x : Nat) : Int := if sg x then -(val (rg x) : Int) else val (rg x)

theorem sval_lt_iff (x y : Nat) : sval x < sval y ↔ key x < key y := by
  have h1 := @val_lt_iff (rg x) (rg y)
  have h2 := @val_lt_iff (rg y) (rg x)
  have h3 : 0 < rg x → 0 < val (rg x) := val_pos
  have h4 : 0 < rg y → 0 < val (rg y) := val_pos
  have h5 : rg x = 0 → val (rg x) = 0 := fun h => by rw [h]; exact val_zero
  have h6 : rg y = 0 → val (rg y) = 0 := fun h => by rw [h]; exact val_zero
  unfold sval key
  cases sg x <;> cases sg y <;> simp <;> omega
theorem sval_eq_iff (x y : Nat) : sval x = sval y ↔ key x = key y := by
  have h1 := sval_lt_iff x y
  have h2 := sval_lt_iff y x
  omega

theorem order_num {x y : Nat} (hx : rg x < INF) (hy : rg y < INF) : Ieee.double.order x y = some (compare (key x) (key y)) := by
  unfold Format.order
  rw [read_num hx, read_num hy]
  unfold Datum.order
  simp only
  congr 1
  generalize ha : ex (rg x) = a
  generalize hb : ex (rg y) = b
  have e1 : ((-1074 + (a : Int)) - min (-1074 + (a : Int)) (-1074 + (b : Int))).toNat = a - min a b := by omega
  have e2 : ((-1074 + (b : Int)) - min (-1074 + (a : Int)) (-1074 + (b : Int))).toNat = b - min a b := by omega
  rw [e1, e2]
  have s1 := signed_val (sg x) (rg x) (min a b) (by rw [ha]; exact Nat.min_le_left _ _)
  have s2 := signed_val (sg y) (rg y) (min a b) (by rw [hb]; exact Nat.min_le_right _ _)
  rw [ha] at s1; rw [hb] at s2
  have hp : (0 : Int) < 2 ^ min a b := Int.pow_pos (by decide)
  have l := sval_lt_iff x y
  have q := sval_eq_iff x y
  have v1 : sval x = signed (sg x) (mag (rg x)) (a - min a b) * 2 ^ min a b := s1.symm
  have v2 : sval y = signed (sg y) (mag (rg y)) (b - min a b) * 2 ^ min a b := s2.symm
  rw [v1, v2] at l q
  refine compare_same ?_ ?_
  · rw [← l]; exact ⟨fun h => Int.mul_lt_mul_of_pos_right h hp, fun h => Int.lt_of_mul_lt_mul_right h (Int.le_of_lt hp)⟩
  · rw [← q]; exact ⟨fun h => by rw [h], fun h => Int.eq_of_mul_eq_mul_right (Int.ne_of_gt hp) h⟩

/-- a word that is no number -/
def isnan (x : Nat) : Bool := decide (INF < rg x)

theorem key_inf_lt {x : Nat} (h : rg x < INF) : -(INF : Int) < key x ∧ key x < INF := by
  unfold key; split <;> omega

theorem order_eq {x y : Nat} (hx : rg x ≤ INF) (hy : rg y ≤ INF) : Ieee.double.order x y = some (compare (key x) (key y)) := by
  have hI : (0 : Int) < INF := by decide
  rcases Nat.lt_or_eq_of_le hx with h1 | h1
  · rcases Nat.lt_or_eq_of_le hy with h2 | h2
    · exact order_num h1 h2
    · unfold Format.order
      rw [read_num h1, read_inf h2]
      have := key_inf_lt h1
      unfold Datum.order
      simp only
      have ky : key y = if sg y then -(INF : Int) else INF := by unfold key; rw [h2]
      rw [ky]
      cases sg y
      · simp only [Bool.false_eq_true, if_false]
        congr 1; symm; exact Int.compare_eq_lt.2 this.2
      · simp only [if_true]
        congr 1; symm; exact Int.compare_eq_gt.2 this.1
  · rcases Nat.lt_or_eq_of_le hy with h2 | h2
    · unfold Format.order
      rw [read_inf h1, read_num h2]
      have := key_inf_lt h2
      unfold Datum.order
      simp only
      have kx : key x = if sg x then -(INF : Int) else INF := by unfold key; rw [h1]
      rw [kx]
      cases sg x
      · simp only [Bool.false_eq_true, if_false]
        congr 1; symm; exact Int.compare_eq_gt.2 this.2
      · simp only [if_true]
        congr 1; symm; exact Int.compare_eq_lt.2 this.1
    · unfold Format.order
      rw [read_inf h1, read_inf h2]
      unfold Datum.order
      simp only
      have kx : key x = if sg x then -(INF : Int) else INF := by unfold key; rw [h1]
      have ky : key y = if sg y then -(INF : Int) else INF := by unfold key; rw [h2]
      rw [kx, ky]
      congr 1
      cases sg x <;> cases sg y <;> decide

theorem order_nan_left {x : Nat} (y : Nat) (hx : INF < rg x) : Ieee.double.order x y = none := by
  unfold Format.order; rw [read_nan hx]; rfl
theorem order_nan_right (x : Nat) {y : Nat} (hy : INF < rg y) : Ieee.double.order x y = none := by
  unfold Format.order; rw [read_nan hy]
  unfold Datum.order; split <;> first | rfl | (rename_i h; cases h) | simp_all

end Go.Proofs.Ytfhcgnkjncfeiaa.Fl
