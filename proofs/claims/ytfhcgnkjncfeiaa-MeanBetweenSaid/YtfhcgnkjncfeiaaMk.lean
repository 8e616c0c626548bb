/- MeanBetween: plain facts: least, greatest, turned round. -/
import Derived.Test.YtfhcgnkjncfeiaaMj
import Derived.Test.YtfhcgnkjncfeiaaMe
namespace Go.Proofs.Ytfhcgnkjncfeiaa
open Go.ChangeShapes Go.WideShapes Go.RowKit Fl

/-- the least of the first k and the first -/
def mnI (f : Nat → Int) : Nat → Int
  | 0 => f 0
  | k + 1 => min (mnI f k) (f k)
/-- the greatest of them -/
def mxI (f : Nat → Int) : Nat → Int
  | 0 => f 0
  | k + 1 => max (mxI f k) (f k)
theorem mn_le (f : Nat → Int) (k : Nat) : ∀ j, j < k → mnI f k ≤ f j ∧ f j ≤ mxI f k := by
  induction k with
  | zero => intro j hj; omega
  | succ k ih =>
    intro j hj
    simp only [mnI, mxI]
    rcases Nat.eq_or_lt_of_le (Nat.lt_succ_iff.1 hj) with h | h
    · subst h; omega
    · have := ih j h; omega
theorem mn_all (f : Nat → Int) (k : Nat) (h : ∀ j, j < k → f j = f 0) : mnI f k = f 0 ∧ mxI f k = f 0 := by
  induction k with
  | zero => exact ⟨rfl, rfl⟩
  | succ k ih =>
    obtain ⟨h1, h2⟩ := ih (fun j hj => h j (by omega))
    have := h k (by omega)
    simp only [mnI, mxI]
    omega
theorem mx_bd (f : Nat → Int) (hf : ∀ j, 0 ≤ f j ∧ f j ≤ 1000000) (k : Nat) : 0 ≤ mnI f k ∧ mnI f k ≤ mxI f k ∧ mxI f k ≤ 1000000 := by
  induction k with
  | zero => have := hf 0; simp only [mnI, mxI]; omega
  | succ k ih => have := hf k; simp only [mnI, mxI]; omega
theorem mx_hm (f : Nat → Int) (hf : ∀ j, 0 ≤ f j ∧ f j ≤ 1000000) (k : Nat) : mxI f (k + 1) = hm f (k + 1) := by
  induction k with
  | zero => have h := hf 0; have := heldI_in (x := f 0) (by omega); simp only [mxI, hm]; omega
  | succ k ih =>
    have h := hf (k + 1)
    have e := heldI_in (x := f (k + 1)) (by omega)
    rw [mxI, hm, ih, e]
theorem sum_between (f : Nat → Int) (hf : ∀ j, 0 ≤ f j ∧ f j ≤ 1000000) (lo hi : Int) (n : Nat) (h : ∀ j, j < n → lo ≤ f j ∧ f j ≤ hi) : n * lo ≤ hs f n ∧ hs f n ≤ n * hi := by
  induction n with
  | zero => simp [hs]
  | succ n ih =>
    obtain ⟨h1, h2⟩ := ih (fun j hj => h j (by omega))
    have h3 := h n (by omega)
    have e := heldI_in (x := f n) (hf n)
    have e1 : ((n + 1 : Nat) : Int) * lo = n * lo + lo := by rw [Int.natCast_add, Int.add_mul]; simp
    have e2 : ((n + 1 : Nat) : Int) * hi = n * hi + hi := by rw [Int.natCast_add, Int.add_mul]; simp
    simp only [hs, e]
    rw [e1, e2]
    omega
theorem dS_zero (f : Nat → Int) (y : Int) (k : Nat) : dS f y k = 0 ↔ ∀ j, j < k → heldI (f j) = y := by
  induction k with
  | zero => simp [dS]
  | succ k ih =>
    have h1 := dS_nonneg f y k
    have h2 : 0 ≤ (heldI (f k) - y) * (heldI (f k) - y) := by
      rcases Int.le_total 0 (heldI (f k) - y) with h | h
      · exact Int.mul_nonneg h h
      · exact Int.mul_nonneg_of_nonpos_of_nonpos h h
    simp only [dS]
    constructor
    · intro h j hj
      have h3 : dS f y k = 0 := by omega
      have h4 : (heldI (f k) - y) * (heldI (f k) - y) = 0 := by omega
      rcases Nat.eq_or_lt_of_le (Nat.lt_succ_iff.1 hj) with e | e
      · subst e
        rcases Int.mul_eq_zero.1 h4 with h | h <;> omega
      · exact ih.1 h3 j e
    · intro h
      rw [ih.2 (fun j hj => h j (by omega)), h k (by omega)]
      simp
theorem vN_zero (f : Nat → Int) (hf : ∀ j, 0 ≤ f j ∧ f j ≤ 1000000) (n : Nat) : vN f n = 0 ↔ ∀ j, j < n → f j = f 0 := by
  have eh : ∀ j, heldI (f j) = f j := fun j => heldI_in (hf j)
  induction n with
  | zero => simp [vN, hq, hs]
  | succ n ih =>
    have h1 := vN_nonneg f n
    have h2 := dS_nonneg f (heldI (f n)) n
    rw [vN_succ]
    constructor
    · intro h
      have h3 : vN f n = 0 := by omega
      have h4 : dS f (heldI (f n)) n = 0 := by omega
      have h5 := ih.1 h3
      have h6 := (dS_zero f _ n).1 h4
      intro j hj
      rcases Nat.eq_or_lt_of_le (Nat.lt_succ_iff.1 hj) with e | e
      · subst e
        rcases Nat.eq_zero_or_pos j with e0 | e0
        · subst e0; rfl
        · have := h6 0 e0
          rw [eh, eh] at this; omega
      · exact h5 j e
    · intro h
      have h5 := ih.2 (fun j hj => h j (by omega))
      have h6 := (dS_zero f (heldI (f n)) n).2 (fun j hj => by rw [eh, eh, h j (by omega), h n (by omega)])
      omega
theorem same_iff (f : Nat → Int) (hf : ∀ j, 0 ≤ f j ∧ f j ≤ 1000000) (n : Nat) : vN f n = 0 ↔ mnI f n = mxI f n := by
  rw [vN_zero f hf n]
  constructor
  · intro h
    obtain ⟨h1, h2⟩ := mn_all f n h
    omega
  · intro h j hj
    have h1 := mn_le f n j hj
    have h2 := mn_le f n 0 (by omega)
    omega

/-! ### turned round -/
/-- those from k on, then the first k -/
def turned (f : Nat → Int) (k n : Nat) (j : Nat) : Int := if j < n - k then f (k + j) else f (j - (n - k))
theorem hs_add (g : Nat → Int) (a b : Nat) : hs g (a + b) = hs g a + hs (fun j => g (a + j)) b ∧ hq g (a + b) = hq g a + hq (fun j => g (a + j)) b := by
  induction b with
  | zero => simp [hs, hq]
  | succ b ih =>
    rw [← Nat.add_assoc]
    simp only [hs, hq]
    rw [ih.1, ih.2]
    omega
theorem turned_sums (f : Nat → Int) (k n : Nat) (hk : k ≤ n) : hs (turned f k n) n = hs f n ∧ hq (turned f k n) n = hq f n := by
  obtain ⟨p, rfl⟩ : ∃ p, n = k + p := ⟨n - k, by omega⟩
  have a1 := hs_add f k p
  have a2 := hs_add (turned f k (k + p)) p k
  rw [Nat.add_comm p k] at a2
  have c1 := meanF_congr (f := turned f k (k + p)) (g := fun j => f (k + j)) (n := p) (fun j hj => by unfold turned; rw [if_pos (by omega)]) p (Nat.le_refl _)
  have c2 := meanF_congr (f := fun j => turned f k (k + p) (p + j)) (g := f) (n := k) (fun j hj => by
    show heldI (turned f k (k + p) (p + j)) = _
    unfold turned; rw [if_neg (by omega)]; congr 2; omega) k (Nat.le_refl _)
  rw [a1.1, a1.2, a2.1, a2.2, c1.1, c1.2.1, c2.1, c2.2.1]
  omega
theorem turned_same (f : Nat → Int) (k n : Nat) (hk : k ≤ n) : meanF (turned f k n) n = meanF f n ∧ varF (turned f k n) n = varF f n := by
  obtain ⟨h1, h2⟩ := turned_sums f k n hk
  refine ⟨?_, ?_⟩
  · unfold meanF; rw [h1]
  · unfold varF vN; rw [h1, h2]
theorem rowK_len (f : Nat → Int) (k : Nat) : (rowK f k).length = k := by unfold rowK; simp
theorem rowK_get (f : Nat → Int) (k j : Nat) (hj : j < k) : (rowK f k)[j]? = some (.int .i64 (f j)) := by unfold rowK; simp [hj]
theorem turned_row (f : Nat → Int) (k n : Nat) (hk : k ≤ n) : rowK (fun j => f (k + j)) (n - k) ++ rowK f k = rowK (turned f k n) n := by
  apply List.ext_getElem?
  intro j
  by_cases h : j < n - k
  · rw [List.getElem?_append_left (by rw [rowK_len]; exact h), rowK_get _ _ _ h, rowK_get _ _ _ (by omega)]
    unfold turned; rw [if_pos h]
  · rw [List.getElem?_append_right (by rw [rowK_len]; omega), rowK_len]
    by_cases h2 : j < n
    · rw [rowK_get _ _ _ (by omega), rowK_get _ _ _ h2]
      unfold turned; rw [if_neg h]
    · rw [List.getElem?_eq_none (by rw [rowK_len]; omega), List.getElem?_eq_none (by rw [rowK_len]; omega)]

/-! ### all together -/
theorem between_all (f : Nat → Int) (hf : ∀ j, 0 ≤ f j ∧ f j ≤ 1000000) (n : Nat) (h : 1 ≤ n ∧ n ≤ 200) :
    (flt (flInt (mnI f n)) (meanF f n) || feq (meanF f n) (flInt (mnI f n))) = true ∧ (flt (meanF f n) (flInt (mxI f n)) || feq (meanF f n) (flInt (mxI f n))) = true ∧
      (flt 0 (varF f n) || feq (varF f n) 0) = true ∧ feq (varF f n) 0 = decide (mnI f n = mxI f n) ∧ feq (meanF f n) (meanF f n) = true ∧ feq (varF f n) (varF f n) = true ∧
      (mxI f n = 0 ∨ (flt 4607182418800017408 (unevenF f n) || feq (unevenF f n) 4607182418800017408) = true) := by
  have hb := hs_bd f n
  obtain ⟨b1, b2, b3⟩ := mx_bd f hf n
  obtain ⟨c1, c2⟩ := sum_between f hf (mnI f n) (mxI f n) n (mn_le f n)
  obtain ⟨S, hS⟩ : ∃ S : Nat, hs f n = S := ⟨(hs f n).toNat, by omega⟩
  obtain ⟨V, hV⟩ : ∃ V : Nat, vN f n = V := ⟨(vN f n).toNat, by have := vN_nonneg f n; omega⟩
  obtain ⟨lo, hlo⟩ : ∃ lo : Nat, mnI f n = lo := ⟨(mnI f n).toNat, by omega⟩
  obtain ⟨hi, hhi⟩ : ∃ hi : Nat, mxI f n = hi := ⟨(mxI f n).toNat, by omega⟩
  have hs0 := same_iff f hf n
  have hvb := vN_bd f n h.2
  have hnn := nn_bd n h
  have en : ((n * n : Nat) : Int) = (n : Int) * n := Int.natCast_mul n n
  have hu := uneven_eq f n h
  have hmx : mxI f n = hm f n := by
    have := mx_hm f hf (n - 1)
    rw [show n - 1 + 1 = n by omega] at this; exact this
  have hz := hm_zero_hs f n
  have hz2 := hs_zero_hm f n
  rw [← hmx, hhi] at hz hz2
  rw [hS] at hb c1 c2 hu hz hz2
  rw [hV] at hs0 hvb
  rw [hlo] at c1 b1 b2 hs0 ⊢
  rw [hhi] at c2 b2 b3 hs0 ⊢
  have c1' : n * lo ≤ S := by exact_mod_cast c1
  have c2' : S ≤ n * hi := by exact_mod_cast c2
  have hok := okN_true h
  have ef : meanF f n = quoW (S : Int) n := by unfold meanF; rw [hok, hS]; simp only [if_true]
  have vf : varF f n = quoW (V : Int) ((n * n : Nat) : Int) := by unfold varF; rw [hok, hV, en]; simp only [if_true]
  rw [ef, vf]
  rw [ef] at hu
  obtain ⟨_, _, p3, p4, p5⟩ := quoN S n (by omega) (by omega)
  have hVb : V ≤ 40000000000000000 := by omega
  have ml := mean_le c2' (by omega) (by omega) (by omega)
  have mg := mean_ge c1' (by omega) (by omega) (by omega)
  obtain ⟨_, _, _, l4⟩ := flN lo (by omega)
  obtain ⟨_, _, _, h4⟩ := flN hi (by omega)
  obtain ⟨_, rq, r3, r2⟩ := quoW_fine (V : Int) ((n * n : Nat) : Int) (by omega) (by omega)
  have rI := (quoW_fine (V : Int) ((n * n : Nat) : Int) (by omega) (by omega)).1
  have vz : quoW (V : Int) ((n * n : Nat) : Int) = 0 ↔ V = 0 := by
    obtain ⟨ra, q, q1, q2, q3, q4, q5, _, q7⟩ := quoW_rnd (V : Int) ((n * n : Nat) : Int) (by omega) (by omega)
    rw [q7]
    have hU := U_pos
    have hnp : 0 < ((n * n : Nat) : Int).natAbs * U := Nat.mul_pos (by omega) hU
    constructor
    · intro e
      subst e
      rcases Nat.eq_zero_or_pos V with e0 | e0
      · exact e0
      · exfalso
        -- the quotient is at least the least one
        have hra : ONE ≤ ra := q1.ge (by decide) (by
          rw [val_ONE, Nat.mul_one]
          exact Nat.le_mul_of_pos_left U (by omega))
        have hv1 : U ≤ val ra := by
          have := val_le hra; rw [val_ONE] at this; exact this
        have hl : LOW ≤ 0 := q4.ge hnp (by
          have e1 := Nat.le_of_ble_eq_true val_LOW
          have e2 : ((n * n : Nat) : Int).natAbs ≤ 9007199254740992 := by omega
          calc val LOW * (((n * n : Nat) : Int).natAbs * U) ≤ val LOW * (9007199254740992 * U) := Nat.mul_le_mul_left _ (Nat.mul_le_mul_right U e2)
            _ = val LOW * 9007199254740992 * U := by rw [Nat.mul_assoc]
            _ ≤ U * U := Nat.mul_le_mul_right U e1
            _ ≤ val ra * U := Nat.mul_le_mul_right U hv1)
        exact absurd hl (by decide)
    · rintro rfl
      have hra : ra = 0 := q1.exact (by decide) (by simp [val_zero])
      subst hra
      exact q4.exact hnp (by rw [val_zero, Nat.zero_mul, Nat.zero_mul])
  refine ⟨?_, ?_, ?_, ?_, ?_, ?_, ?_⟩
  · rw [flt_plain l4 p3, feq_plain p3 l4]
    simp only [Bool.or_eq_true, decide_eq_true_eq]; omega
  · rw [flt_plain p3 h4, feq_plain p3 h4]
    simp only [Bool.or_eq_true, decide_eq_true_eq]; omega
  · rw [flt_plain (by decide) rI, feq_plain rI (by decide)]
    simp only [Bool.or_eq_true, decide_eq_true_eq]; omega
  · rw [feq_plain rI (by decide), decide_eq_decide, vz]
    omega
  · rw [feq_plain p3 p3]; exact decide_eq_true rfl
  · rw [feq_plain rI rI]; exact decide_eq_true rfl
  · rcases hu with ⟨z1, _⟩ | ⟨z1, _, z3, z4, _⟩
    · left; have := hz2 z1; omega
    · right
      have hI : HIGH < INF := by decide
      have hO : (4607182418800017408 : Nat) < INF := by decide
      have eO : ONE = 4607182418800017408 := rfl
      rw [flt_plain hO (by omega), feq_plain (by omega) hO]
      simp only [Bool.or_eq_true, decide_eq_true_eq]; omega
end Go.Proofs.Ytfhcgnkjncfeiaa
