/- Plain facts on 64-bit floats, no Go in sight: the rung that rounding finds lies between the midpoints; quotients, sums and products. -/
import Derived.Test.YtfhcgnkjncfeiaaFlA
namespace Go.Proofs.Ytfhcgnkjncfeiaa.Fl
open Ieee

/-- r is a rung nearest to a / b units -/
def Rnd (r a b : Nat) : Prop := 2 * a ≤ (val r + val (r + 1)) * b ∧ (0 < r → (val (r - 1) + val r) * b ≤ 2 * a)

theorem Rnd.le {r a b s : Nat} (h : Rnd r a b) (hb : 0 < b) (hs : a ≤ val s * b) : r ≤ s := by
  rcases Nat.lt_or_ge s r with hr | hr
  · exfalso
    have h1 := h.2 (by omega)
    have v1 : val s ≤ val (r - 1) := val_le (by omega)
    have v2 : val s < val r := val_lt hr
    have : (2 * val s + 1) * b ≤ (val (r - 1) + val r) * b := Nat.mul_le_mul_right b (by omega)
    rw [Nat.add_mul, Nat.mul_assoc] at this
    omega
  · exact hr
theorem Rnd.ge {r a b s : Nat} (h : Rnd r a b) (hb : 0 < b) (hs : val s * b ≤ a) : s ≤ r := by
  rcases Nat.lt_or_ge r s with hr | hr
  · exfalso
    have h1 := h.1
    have v1 : val (r + 1) ≤ val s := val_le hr
    have v2 : val r < val s := val_lt hr
    have : (val r + val (r + 1) + 1) * b ≤ (2 * val s) * b := Nat.mul_le_mul_right b (by omega)
    rw [Nat.add_mul, Nat.mul_assoc] at this
    omega
  · exact hr
theorem Rnd.exact {r a b s : Nat} (h : Rnd r a b) (hb : 0 < b) (hs : a = val s * b) : r = s :=
  Nat.le_antisymm (h.le hb (Nat.le_of_eq hs)) (h.ge hb (Nat.le_of_eq hs.symm))
theorem Rnd.mono {r a b r' a' b' : Nat} (h : Rnd r a b) (h' : Rnd r' a' b') (hl : a * b' < a' * b) : r ≤ r' := by
  rcases Nat.lt_or_ge r' r with hr | hr
  · exfalso
    have h1 := h.2 (by omega)
    have h2 := h'.1
    have v1 : val r' ≤ val (r - 1) := val_le (by omega)
    have v2 : val (r' + 1) ≤ val r := val_le hr
    have e1 : 2 * a' * b ≤ (val r' + val (r' + 1)) * b' * b := Nat.mul_le_mul_right b h2
    have e2 : (val (r - 1) + val r) * b * b' ≤ 2 * a * b' := Nat.mul_le_mul_right b' h1
    have e3 : (val r' + val (r' + 1)) * (b' * b) ≤ (val (r - 1) + val r) * (b' * b) := Nat.mul_le_mul_right _ (by omega)
    rw [Nat.mul_assoc] at e1 e2
    rw [Nat.mul_assoc (val r' + val (r' + 1))] at e1
    rw [Nat.mul_assoc 2 a b', Nat.mul_comm b b'] at e2
    omega
  · exact hr
/-- the same fraction, written with other numbers -/
theorem Rnd.same {r a b a' b' : Nat} (h : Rnd r a b) (hb : 0 < b) (e : a * b' = a' * b) : Rnd r a' b' := by
  refine ⟨?_, fun hr => ?_⟩
  · refine Nat.le_of_mul_le_mul_right ?_ hb
    have := Nat.mul_le_mul_right b' h.1
    calc 2 * a' * b = 2 * a * b' := by rw [Nat.mul_assoc, Nat.mul_assoc, e]
      _ ≤ (val r + val (r + 1)) * b * b' := this
      _ = (val r + val (r + 1)) * b' * b := by rw [Nat.mul_assoc, Nat.mul_assoc, Nat.mul_comm b b']
  · refine Nat.le_of_mul_le_mul_right ?_ hb
    have := Nat.mul_le_mul_right b' (h.2 hr)
    calc (val (r - 1) + val r) * b' * b = (val (r - 1) + val r) * b * b' := by rw [Nat.mul_assoc, Nat.mul_assoc, Nat.mul_comm b b']
      _ ≤ 2 * a * b' := this
      _ = 2 * a' * b := by rw [Nat.mul_assoc, Nat.mul_assoc, e]

/-! ### rounding of 'n / 2 ^ d' to a whole number -/

theorem cut_even (neg : Bool) (n d : Nat) : 2 * n ≤ (2 * Toward.even.cut neg n d + 1) * 2 ^ d ∧ 2 * Toward.even.cut neg n d * 2 ^ d ≤ 2 * n + 2 ^ d ∧ n / 2 ^ d ≤ Toward.even.cut neg n d ∧ Toward.even.cut neg n d ≤ n / 2 ^ d + 1 := by
  unfold Toward.cut
  simp only [Nat.shiftLeft_eq, Nat.one_mul]
  by_cases hd : d ≤ n.log2 + 2
  · rw [Nat.min_eq_left hd]
    have hg : 0 < 2 ^ d := Nat.two_pow_pos d
    generalize hG : 2 ^ d = g at hg ⊢
    have h1 := Nat.div_add_mod n g
    have h2 := Nat.mod_lt n hg
    generalize n / g = low at h1 ⊢
    generalize n % g = rest at h1 h2 ⊢
    have key : ∀ more : Nat, more ≤ 1 → (more = 1 → g ≤ 2 * rest) → (more = 0 → 2 * rest ≤ g) →
        2 * n ≤ (2 * (low + more) + 1) * g ∧ 2 * (low + more) * g ≤ 2 * n + g ∧ low ≤ low + more ∧ low + more ≤ low + 1 := by
      intro more hm m1 m0
      have e1 : (2 * (low + more) + 1) * g = 2 * (g * low) + 2 * (more * g) + g := by
        rw [Nat.add_mul, Nat.one_mul, Nat.mul_assoc, Nat.add_mul, Nat.mul_add, Nat.mul_comm low g]
      have e2 : 2 * (low + more) * g = 2 * (g * low) + 2 * (more * g) := by
        rw [Nat.mul_assoc, Nat.add_mul, Nat.mul_add, Nat.mul_comm low g]
      rw [e1, e2]
      rcases (by omega : more = 0 ∨ more = 1) with rfl | rfl
      · have := m0 rfl; omega
      · have := m1 rfl; omega
    refine key _ ?_ ?_ ?_
    · cases (decide (g < 2 * rest) || g == 2 * rest && low % 2 == 1) <;> decide
    · intro h
      have h' : (decide (g < 2 * rest) || g == 2 * rest && low % 2 == 1) = true := by
        cases hb : (decide (g < 2 * rest) || g == 2 * rest && low % 2 == 1)
        · rw [hb] at h; cases h
        · rfl
      simp at h'; omega
    · intro h
      have h' : (decide (g < 2 * rest) || g == 2 * rest && low % 2 == 1) = false := by
        cases hb : (decide (g < 2 * rest) || g == 2 * rest && low % 2 == 1)
        · rfl
        · rw [hb] at h; cases h
      simp at h'; omega
  · rw [Nat.min_eq_right (by omega)]
    have hn : n < 2 ^ (n.log2 + 1) := Nat.lt_log2_self
    have hp : 2 ^ (n.log2 + 2) = 2 * 2 ^ (n.log2 + 1) := by rw [Nat.pow_succ, Nat.mul_comm]
    have hle : 2 ^ (n.log2 + 2) ≤ 2 ^ d := Nat.pow_le_pow_right (by decide) (by omega)
    rw [Nat.div_eq_of_lt (by omega : n < 2 ^ (n.log2 + 2)), Nat.mod_eq_of_lt (by omega : n < 2 ^ (n.log2 + 2)), Nat.div_eq_of_lt (by omega : n < 2 ^ d)]
    have hb : (decide (2 ^ (n.log2 + 2) < 2 * n) || 2 ^ (n.log2 + 2) == 2 * n && 0 % 2 == 1) = false := by
      simp; omega
    rw [hb]
    simp; omega

/-- an odd number is no midpoint of fours -/
theorem cut_even_odd (neg : Bool) (n d : Nat) (hn : n % 2 = 1) (hd : 2 ≤ d) : 2 * n + 2 ≤ (2 * Toward.even.cut neg n d + 1) * 2 ^ d ∧ 2 * Toward.even.cut neg n d * 2 ^ d + 2 ≤ 2 * n + 2 ^ d := by
  obtain ⟨h1, h2, _, _⟩ := cut_even neg n d
  generalize Toward.even.cut neg n d = k at h1 h2 ⊢
  obtain ⟨e, rfl⟩ : ∃ e, d = e + 2 := ⟨d - 2, by omega⟩
  have hp : 2 ^ (e + 2) = 4 * 2 ^ e := by rw [Nat.pow_add, Nat.mul_comm]
  rw [hp] at h1 h2 ⊢
  generalize 2 ^ e = t at h1 h2 ⊢
  have e1 : (2 * k + 1) * (4 * t) = 4 * ((2 * k + 1) * t) := by rw [Nat.mul_left_comm]
  have e2 : 2 * k * (4 * t) = 4 * (2 * k * t) := by rw [Nat.mul_left_comm]
  rw [e1] at h1 ⊢
  rw [e2] at h2 ⊢
  omega

theorem word_eq (neg : Bool) (r : Nat) : Ieee.double.word neg r = if neg then 9223372036854775808 + r else r := by
  unfold Format.word; rw [sw_eq]
theorem rg_word {neg : Bool} {r : Nat} (h : r < 9223372036854775808) : rg (Ieee.double.word neg r) = r := by
  rw [word_eq]; unfold rg; cases neg <;> simp <;> omega
theorem sg_word {neg : Bool} {r : Nat} (h : r < 9223372036854775808) : sg (Ieee.double.word neg r) = neg := by
  rw [word_eq]; unfold sg; cases neg <;> simp <;> omega

/-- what rounding finds, with the numbers on its way: L the last kept place, k the kept digits, 'n / 2 ^ d' what was rounded -/
theorem nearest_parts (neg : Bool) (m : Nat) (p : Int) (hm : 0 < m) : ∃ L k n d : Nat,
    Ieee.double.nearest neg m p = Ieee.double.word neg (min (L * B + k) INF) ∧ k = Toward.even.cut neg n d ∧ k ≤ 2 * B ∧ (L = 0 ∨ B ≤ k) ∧ (1 ≤ L → B * 2 ^ d ≤ n) ∧
    ((d = 0 ∧ ∃ u : Nat, n = m * 2 ^ u ∧ p + 1074 = L + u) ∨ (n = m ∧ p + 1074 + d = L)) ∧ ((p + m.log2 - 52 : Int) ≤ L - 1074) := by
  have hlog : 2 ^ m.log2 ≤ m := Nat.log2_self_le (by omega)
  have hlog' : m < 2 ^ (m.log2 + 1) := Nat.lt_log2_self
  unfold Format.nearest
  rw [if_neg (by omega)]
  simp only [infRung_eq, binade_eq, lp_eq]
  have hf : Ieee.double.fractionBits = 52 := rfl
  rw [hf]
  generalize m.log2 = l at hlog hlog' ⊢
  have hlast : ∃ L : Nat, max (p + (l : Int) - ((52 : Nat) : Int)) (-1074) = (L : Int) - 1074 := ⟨(max (p + (l : Int) - ((52 : Nat) : Int)) (-1074) + 1074).toNat, by omega⟩
  obtain ⟨L, hL⟩ := hlast
  rw [hL]
  have eL : ((L : Int) - 1074 - -1074).toNat = L := by omega
  rw [eL]
  refine ⟨L, _, m <<< (p - ((L : Int) - 1074)).toNat, ((L : Int) - 1074 - p).toNat, rfl, rfl, ?_, ?_, ?_, ?_, by omega⟩
  all_goals
    rw [Nat.shiftLeft_eq]
    generalize hu : (p - ((L : Int) - 1074)).toNat = u
    generalize hd : ((L : Int) - 1074 - p).toNat = d
  · -- k ≤ 2 * B
    have hc := (cut_even neg (m * 2 ^ u) d).2.2.2
    have : m * 2 ^ u / 2 ^ d < 2 * B := by
      rw [Nat.div_lt_iff_lt_mul (Nat.two_pow_pos d)]
      have e : 2 * B * 2 ^ d = 2 ^ (53 + d) := by rw [B_eq, ← Nat.pow_succ', Nat.pow_add]
      rw [e]
      calc m * 2 ^ u < 2 ^ (l + 1) * 2 ^ u := Nat.mul_lt_mul_of_pos_right hlog' (Nat.two_pow_pos u)
        _ = 2 ^ (l + 1 + u) := by rw [Nat.pow_add 2 (l + 1) u]
        _ ≤ 2 ^ (53 + d) := Nat.pow_le_pow_right (by decide) (by omega)
    omega
  · -- L = 0 or B ≤ k
    by_cases h0 : L = 0
    · exact Or.inl h0
    · right
      have hc := (cut_even neg (m * 2 ^ u) d).2.2.1
      refine Nat.le_trans ?_ hc
      rw [Nat.le_div_iff_mul_le (Nat.two_pow_pos d)]
      have e : B * 2 ^ d = 2 ^ (52 + d) := by rw [B_eq, Nat.pow_add]
      rw [e]
      calc 2 ^ (52 + d) ≤ 2 ^ (l + u) := Nat.pow_le_pow_right (by decide) (by omega)
        _ = 2 ^ l * 2 ^ u := by rw [Nat.pow_add]
        _ ≤ m * 2 ^ u := Nat.mul_le_mul_right _ hlog
  · intro h1
    have e : B * 2 ^ d = 2 ^ (52 + d) := by rw [B_eq, Nat.pow_add]
    rw [e]
    calc 2 ^ (52 + d) ≤ 2 ^ (l + u) := Nat.pow_le_pow_right (by decide) (by omega)
      _ = 2 ^ l * 2 ^ u := by rw [Nat.pow_add]
      _ ≤ m * 2 ^ u := Nat.mul_le_mul_right _ hlog
  · by_cases h : p ≤ (L : Int) - 1074
    · right
      have : u = 0 := by omega
      subst this
      exact ⟨by simp, by omega⟩
    · left
      exact ⟨by omega, u, rfl, by omega⟩

/-- from the kept digits to the rung: 'a / b' units is 'n / 2 ^ d' of the place L -/
theorem rnd_of_cut {L k d a b : Nat} (hk : k ≤ 2 * B) (hL : L = 0 ∨ B ≤ k)
    (h1 : 2 * a * 2 ^ d ≤ (2 * k + 1) * 2 ^ d * (2 ^ L * b)) (h2 : 2 * k * 2 ^ d * (2 ^ L * b) ≤ 2 * a * 2 ^ d + 2 ^ d * (2 ^ L * b)) (h3 : 1 ≤ L → B * 2 ^ L * b ≤ a) : Rnd (L * B + k) a b := by
  have hd : 0 < 2 ^ d := Nat.two_pow_pos d
  have v0 : val (L * B + k) = k * 2 ^ L := val_at L k hk hL
  have g1 : 2 * a ≤ (2 * k + 1) * (2 ^ L * b) := by
    refine Nat.le_of_mul_le_mul_right ?_ hd
    calc 2 * a * 2 ^ d ≤ (2 * k + 1) * 2 ^ d * (2 ^ L * b) := h1
      _ = (2 * k + 1) * (2 ^ L * b) * 2 ^ d := by rw [Nat.mul_right_comm]
  have g2 : 2 * k * (2 ^ L * b) ≤ 2 * a + 2 ^ L * b := by
    refine Nat.le_of_mul_le_mul_right ?_ hd
    calc 2 * k * (2 ^ L * b) * 2 ^ d = 2 * k * 2 ^ d * (2 ^ L * b) := by rw [Nat.mul_right_comm]
      _ ≤ _ := h2
      _ = (2 * a + 2 ^ L * b) * 2 ^ d := by rw [Nat.add_mul, Nat.mul_comm (2 ^ d) (2 ^ L * b)]
  refine ⟨?_, fun hr => ?_⟩
  · have v1 : (k + 1) * 2 ^ L ≤ val (L * B + k + 1) := by
      by_cases hk' : k = 2 * B
      · subst hk'
        have e : L * B + 2 * B + 1 = (L + 1) * B + (B + 1) := by rw [Nat.add_mul, Nat.one_mul]; omega
        rw [e, val_at (L + 1) (B + 1) (by have := B_pos; omega) (Or.inr (by omega)), Nat.pow_succ]
        have : (2 * B + 1) * 2 ^ L ≤ (2 * (B + 1)) * 2 ^ L := Nat.mul_le_mul_right _ (by omega)
        calc (2 * B + 1) * 2 ^ L ≤ (2 * (B + 1)) * 2 ^ L := this
          _ = (B + 1) * (2 ^ L * 2) := by rw [Nat.mul_comm 2 (B + 1), Nat.mul_assoc, Nat.mul_comm 2]
      · rw [Nat.add_assoc, val_at L (k + 1) (by omega) (by omega)]; exact Nat.le_refl _
    rw [v0]
    calc 2 * a ≤ (2 * k + 1) * (2 ^ L * b) := g1
      _ = (k * 2 ^ L + (k + 1) * 2 ^ L) * b := by rw [← Nat.add_mul, Nat.mul_assoc]; congr 1; omega
      _ ≤ (k * 2 ^ L + val (L * B + k + 1)) * b := Nat.mul_le_mul_right b (by omega)
  · by_cases hkB : L = 0 ∨ B < k
    · have hk0 : 0 < k := by
        rcases hkB with h | h
        · subst h; omega
        · omega
      have v1 : val (L * B + k - 1) = (k - 1) * 2 ^ L := by
        have e : L * B + k - 1 = L * B + (k - 1) := by omega
        rw [e, val_at L (k - 1) (by omega) (by omega)]
      rw [v0, v1, ← Nat.add_mul, Nat.mul_assoc]
      obtain ⟨j, rfl⟩ : ∃ j, k = j + 1 := ⟨k - 1, by omega⟩
      have e1 : 2 * (j + 1) * (2 ^ L * b) = (2 * j + 1) * (2 ^ L * b) + 2 ^ L * b := by
        rw [← Nat.succ_mul]; congr 1
      have e2 : (j + 1 - 1 + (j + 1)) * (2 ^ L * b) = (2 * j + 1) * (2 ^ L * b) := by congr 1; omega
      rw [e2]; omega
    · have hkB' : k = B := by omega
      have hL1 : 1 ≤ L := by omega
      have v1 : val (L * B + k - 1) ≤ val (L * B + k) := val_le (by omega)
      have h3' := h3 hL1
      rw [v0] at v1 ⊢
      rw [hkB'] at v1 ⊢
      calc (val (L * B + B - 1) + B * 2 ^ L) * b ≤ (B * 2 ^ L + B * 2 ^ L) * b := Nat.mul_le_mul_right b (by omega)
        _ = 2 * (B * 2 ^ L * b) := by rw [Nat.add_mul, Nat.two_mul]
        _ ≤ 2 * a := Nat.mul_le_mul_left 2 h3'

end Go.Proofs.Ytfhcgnkjncfeiaa.Fl
