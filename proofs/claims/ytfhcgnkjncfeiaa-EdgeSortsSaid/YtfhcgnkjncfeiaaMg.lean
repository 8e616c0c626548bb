/- How uneven: the document's Uneven. -/
import Derived.Test.YtfhcgnkjncfeiaaMf
namespace Go.Proofs.Ytfhcgnkjncfeiaa
open Go.ChangeShapes Go.WideShapes Go.RowKit Fl

/-! ### how uneven, by the document -/
/-- the greatest, as it is held -/
def hm (f : Nat → Int) : Nat → Int
  | 0 => 0
  | k + 1 => max (hm f k) (heldI (f k))
theorem hm_bd (f : Nat → Int) (k : Nat) : 0 ≤ hm f k ∧ hm f k ≤ 1000000 := by
  induction k with
  | zero => simp [hm]
  | succ k ih => have := heldI_bd (f k); simp only [hm]; omega
theorem heldI_max (a b : Int) : heldI (max a b) = max (heldI a) (heldI b) := by unfold heldI; omega
theorem hm_max (f : Nat → Int) (k : Nat) : hm f (k + 1) = heldI (maxI f k) := by
  induction k with
  | zero => have := heldI_bd (f 0); simp only [hm, maxI]; omega
  | succ k ih => rw [hm, ih]; simp only [maxI]; rw [heldI_max]
theorem hs_le_hm (f : Nat → Int) (k : Nat) : hs f k ≤ k * hm f k := by
  induction k with
  | zero => simp [hs]
  | succ k ih =>
    have h1 : (k : Int) * hm f k ≤ k * hm f (k + 1) := Int.mul_le_mul_of_nonneg_left (by simp only [hm]; omega) (by omega)
    have h2 : ((k + 1 : Nat) : Int) * hm f (k + 1) = k * hm f (k + 1) + hm f (k + 1) := by rw [Int.natCast_add, Int.add_mul]; simp
    rw [h2]
    have h3 : heldI (f k) ≤ hm f (k + 1) := by simp only [hm]; omega
    simp only [hs]; omega
theorem hs_zero_hm (f : Nat → Int) (k : Nat) (h : hs f k = 0) : hm f k = 0 := by
  induction k with
  | zero => rfl
  | succ k ih =>
    have h1 := hs_bd f k
    have h2 := heldI_bd (f k)
    simp only [hs] at h
    have h3 := ih (by omega)
    simp only [hm]; omega
theorem hm_zero_hs (f : Nat → Int) (k : Nat) (h : hm f k = 0) : hs f k = 0 := by
  have := hs_le_hm f k
  rw [h] at this
  have := hs_bd f k
  simp at *; omega
/-- how uneven, told by sum and greatest -/
theorem uneven_eq (f : Nat → Int) (n : Nat) (h : 1 ≤ n ∧ n ≤ 200) : (hs f n = 0 ∧ unevenF f n = NANW ∧ meanF f n = 0) ∨ (1 ≤ hs f n ∧ fdiv (flInt (hm f n)) (quoW (hs f n) n) = some (unevenF f n) ∧ ONE ≤ unevenF f n ∧ unevenF f n ≤ HIGH ∧ meanF f n = quoW (hs f n) n ∧ LOW ≤ meanF f n ∧ meanF f n ≤ M53) := by
  have hb := hs_bd f n
  have hmb := hm_bd f n
  have hle := hs_le_hm f n
  have hz := hs_zero_hm f n
  have em : hm f n = heldI (maxI f (n - 1)) := by
    have := hm_max f (n - 1)
    rw [show n - 1 + 1 = n by omega] at this; exact this
  obtain ⟨S, hS⟩ : ∃ S : Nat, hs f n = S := ⟨(hs f n).toNat, by omega⟩
  obtain ⟨M, hM⟩ : ∃ M : Nat, hm f n = M := ⟨(hm f n).toNat, by omega⟩
  rw [hS, hM] at hle hz
  rw [hS] at hb ⊢
  rw [hM] at hmb
  have hle' : S ≤ n * M := by exact_mod_cast hle
  unfold unevenF meanF
  rw [okN_true h, hS, ← em, hM]
  simp only [if_true]
  rcases Nat.eq_zero_or_pos S with h0 | h0
  · left
    subst h0
    have hM0 : M = 0 := by have := hz rfl; omega
    subst hM0
    have e : quoW ((0 : Nat) : Int) n = 0 := quoW_zero n (by omega)
    rw [e]
    refine ⟨rfl, ?_, rfl⟩
    have e2 : quot (flInt ((0 : Nat) : Int)) 0 = none := by unfold quot; rw [if_pos (by decide)]
    rw [e2]
  · right
    obtain ⟨z, z1, z2, z3⟩ := over_mean hle' h0 (by omega) (by omega) (by omega)
    obtain ⟨_, _, q3, q4, q5⟩ := quoN S n (by omega) (by omega)
    have hI : HIGH < INF := by decide
    obtain ⟨_, _, _, p4⟩ := plain_fine (show z < INF by omega)
    obtain ⟨_, _, _, r4⟩ := plain_fine q3
    have hL : 0 < LOW := by decide
    have hq4 := q4 h0
    have e2 : quot (flInt (M : Int)) (quoW (S : Int) n) = some z := by
      unfold quot
      rw [if_neg (by rw [r4]; omega), z1]
      dsimp only
      have : isinf z = false := by unfold isinf; rw [p4]; exact decide_eq_false (by omega)
      rw [this]; rfl
    rw [e2]
    exact ⟨by omega, z1, z2, z3, trivial, hq4, q5⟩
set_option maxHeartbeats 1600000 in
theorem runeven_any (f : Nat → Int) (b off n cap : Nat) (w : World) (hc : IntsAt w b off n f) (h1 : 1 ≤ n) (hn : n ≤ 1000) :
    Calls Try.prog 34 #[.slice (some ⟨b, off, none⟩) n cap] w fun e w' => e = .returned (.float .f64 (unevenF f n)) ∧ w = w' := by
  have R := Lib.hid (rmean_any f b off n cap w hc h1)
  have HC := Lib.hid hc
  have HN := Lib.hid hn
  have hf1 : floatOfInt .f64 (hm f n) = flInt (hm f n) := rfl
  have h0 : (0 : Int) = hm f 0 := rfl
  have hL : 0 < LOW := by decide
  have hM : M53 < INF := by decide
  have hcase : (unevenF f n = NANW ∧ meanF f n = NANW) ∨ (unevenF f n = NANW ∧ meanF f n = 0) ∨ (fdiv (flInt (hm f n)) (meanF f n) = some (unevenF f n) ∧ LOW ≤ meanF f n ∧ meanF f n ≤ M53) := by
    by_cases h : n ≤ 200
    · rcases uneven_eq f n ⟨h1, h⟩ with ⟨_, e1, e2⟩ | ⟨_, e1, _, _, e2, e3, e4⟩
      · exact Or.inr (Or.inl ⟨e1, e2⟩)
      · exact Or.inr (Or.inr ⟨by rw [e2]; exact e1, e3, e4⟩)
    · left
      unfold unevenF meanF
      rw [okN_false (by omega)]
      exact ⟨rfl, rfl⟩
  clear hc hn h1
  rcases hcase with ⟨e1, e2⟩ | ⟨e1, e2⟩ | ⟨e1, e3, e4⟩
  · rw [e1]
    rw [e2] at R
    have f1 : feq NANW NANW = false := by decide
    clear e1 e2 hL hM
    go_enter Try.func34, Try.ntmps34
    go_wp2_with fail
    go_loopw [3, 9] (fun s i wr => ∃ k : Nat, k ≤ n ∧ i = .int .i64 k ∧ s = .int .i64 (hm f k) ∧ wr = w) (fun _ i _ => n - (intOf i).toNat)
    case atStart => exact ⟨0, by omega, rfl, rfl, rfl⟩
    case round =>
      obtain ⟨k, hk, rfl, rfl, rfl⟩ := hrel
      by_cases hlt : k < n
      · have hltz : (k : Int) < (n : Int) := by omega
        have cK := HC.out k hlt
        have wk : IntKind.i64.wrap ((k : Int) + 1) = (k : Int) + 1 := by have := HN.out; rw [IntKind.wrap_i64]; omega
        have w1 : max (hm f k) (heldI (f k)) = hm f (k + 1) := rfl
        go_wp2_with (go_at_call 73; refine (rheld_any _ _).mono ?_; rintro _ _ ⟨rfl, rfl⟩)
        exact ⟨⟨k + 1, by omega, by simp, rfl, trivial⟩, by simp only [intOf]; omega⟩
      · have : k = n := by omega
        subst this
        have hltz : ¬ (k : Int) < (k : Int) := by omega
        go_wp2_with fail
        refine R.out.mono ?_
        rintro _ _ ⟨rfl, rfl⟩
        go_wp2_with (first | (go_at_call 36; refine (cmp_any _ _ _ (by assumption) (by assumption)).mono ?_; rintro _ _ ⟨rfl, rfl⟩) | (go_at_call 30; refine (same_any _ _ _ (by assumption) (by assumption)).mono ?_; rintro _ _ ⟨rfl, rfl⟩) | (go_at_call 68; refine (isNaN_any _ _).mono ?_; rintro _ _ ⟨rfl, rfl⟩) | (go_at_call 28; refine (isInf_any _ _ (by assumption) (by assumption)).mono ?_; rintro _ _ ⟨rfl, rfl⟩) | (go_at_call 40; refine (nan_any _).mono ?_; rintro _ _ ⟨rfl, rfl⟩) | (go_at_call 39; refine (infPos_any _).mono ?_; rintro _ _ ⟨rfl, rfl⟩) | (go_at_call 39; refine (infNeg_any _).mono ?_; rintro _ _ ⟨rfl, rfl⟩) | (go_at_call 46; refine (negNought_any _).mono ?_; rintro _ _ ⟨rfl, rfl⟩) | (go_at_call 43; refine (bit_any _ _).mono ?_; rintro _ _ ⟨rfl, rfl⟩))
        go_ret
        exact ⟨rfl, rfl⟩
  · rw [e1]
    rw [e2] at R
    have f1 : feq 0 0 = true := by decide
    clear e1 e2 hL hM
    go_enter Try.func34, Try.ntmps34
    go_wp2_with fail
    go_loopw [3, 9] (fun s i wr => ∃ k : Nat, k ≤ n ∧ i = .int .i64 k ∧ s = .int .i64 (hm f k) ∧ wr = w) (fun _ i _ => n - (intOf i).toNat)
    case atStart => exact ⟨0, by omega, rfl, rfl, rfl⟩
    case round =>
      obtain ⟨k, hk, rfl, rfl, rfl⟩ := hrel
      by_cases hlt : k < n
      · have hltz : (k : Int) < (n : Int) := by omega
        have cK := HC.out k hlt
        have wk : IntKind.i64.wrap ((k : Int) + 1) = (k : Int) + 1 := by have := HN.out; rw [IntKind.wrap_i64]; omega
        have w1 : max (hm f k) (heldI (f k)) = hm f (k + 1) := rfl
        go_wp2_with (go_at_call 73; refine (rheld_any _ _).mono ?_; rintro _ _ ⟨rfl, rfl⟩)
        exact ⟨⟨k + 1, by omega, by simp, rfl, trivial⟩, by simp only [intOf]; omega⟩
      · have : k = n := by omega
        subst this
        have hltz : ¬ (k : Int) < (k : Int) := by omega
        go_wp2_with fail
        refine R.out.mono ?_
        rintro _ _ ⟨rfl, rfl⟩
        go_wp2_with (first | (go_at_call 36; refine (cmp_any _ _ _ (by assumption) (by assumption)).mono ?_; rintro _ _ ⟨rfl, rfl⟩) | (go_at_call 30; refine (same_any _ _ _ (by assumption) (by assumption)).mono ?_; rintro _ _ ⟨rfl, rfl⟩) | (go_at_call 68; refine (isNaN_any _ _).mono ?_; rintro _ _ ⟨rfl, rfl⟩) | (go_at_call 28; refine (isInf_any _ _ (by assumption) (by assumption)).mono ?_; rintro _ _ ⟨rfl, rfl⟩) | (go_at_call 40; refine (nan_any _).mono ?_; rintro _ _ ⟨rfl, rfl⟩) | (go_at_call 39; refine (infPos_any _).mono ?_; rintro _ _ ⟨rfl, rfl⟩) | (go_at_call 39; refine (infNeg_any _).mono ?_; rintro _ _ ⟨rfl, rfl⟩) | (go_at_call 46; refine (negNought_any _).mono ?_; rintro _ _ ⟨rfl, rfl⟩) | (go_at_call 43; refine (bit_any _ _).mono ?_; rintro _ _ ⟨rfl, rfl⟩))
        go_ret
        exact ⟨rfl, rfl⟩
  · generalize meanF f n = mu at R e1 e3 e4
    generalize unevenF f n = un at e1 ⊢
    obtain ⟨_, p2, _, p4⟩ := plain_fine (show mu < INF by omega)
    have f1 : feq mu mu = true := by rw [feq_self, p2]; rfl
    have f2 : feq mu 0 = false := by rw [feq_zero, p4]; exact decide_eq_false (by omega)
    clear hL hM p2 p4 e3 e4
    go_enter Try.func34, Try.ntmps34
    go_wp2_with fail
    go_loopw [3, 9] (fun s i wr => ∃ k : Nat, k ≤ n ∧ i = .int .i64 k ∧ s = .int .i64 (hm f k) ∧ wr = w) (fun _ i _ => n - (intOf i).toNat)
    case atStart => exact ⟨0, by omega, rfl, rfl, rfl⟩
    case round =>
      obtain ⟨k, hk, rfl, rfl, rfl⟩ := hrel
      by_cases hlt : k < n
      · have hltz : (k : Int) < (n : Int) := by omega
        have cK := HC.out k hlt
        have wk : IntKind.i64.wrap ((k : Int) + 1) = (k : Int) + 1 := by have := HN.out; rw [IntKind.wrap_i64]; omega
        have w1 : max (hm f k) (heldI (f k)) = hm f (k + 1) := rfl
        go_wp2_with (go_at_call 73; refine (rheld_any _ _).mono ?_; rintro _ _ ⟨rfl, rfl⟩)
        exact ⟨⟨k + 1, by omega, by simp, rfl, trivial⟩, by simp only [intOf]; omega⟩
      · have : k = n := by omega
        subst this
        have hltz : ¬ (k : Int) < (k : Int) := by omega
        go_wp2_with fail
        refine R.out.mono ?_
        rintro _ _ ⟨rfl, rfl⟩
        go_wp2_with fail
        go_ret
        exact ⟨rfl, rfl⟩
set_option maxHeartbeats 800000 in
theorem runeven_none (ao : Option Addr) (cap : Nat) (w : World) : Calls Try.prog 34 #[.slice ao 0 cap] w fun e w' => e = .returned (.float .f64 NANW) ∧ w = w' := by
  have R := Lib.hid (rmean_none ao cap w)
  have f1 : feq NANW NANW = false := by decide
  go_enter Try.func34, Try.ntmps34
  go_wp2_with fail
  go_loopw [3, 9] (fun s i wr => i = .int .i64 0 ∧ wr = w) (fun _ _ _ => 0)
  case atStart => exact ⟨rfl, rfl⟩
  case round =>
    obtain ⟨rfl, rfl⟩ := hrel
    go_wp2_with fail
    refine R.out.mono ?_
    rintro _ _ ⟨rfl, rfl⟩
    go_wp2_with (first | (go_at_call 36; refine (cmp_any _ _ _ (by assumption) (by assumption)).mono ?_; rintro _ _ ⟨rfl, rfl⟩) | (go_at_call 30; refine (same_any _ _ _ (by assumption) (by assumption)).mono ?_; rintro _ _ ⟨rfl, rfl⟩) | (go_at_call 68; refine (isNaN_any _ _).mono ?_; rintro _ _ ⟨rfl, rfl⟩) | (go_at_call 28; refine (isInf_any _ _ (by assumption) (by assumption)).mono ?_; rintro _ _ ⟨rfl, rfl⟩) | (go_at_call 40; refine (nan_any _).mono ?_; rintro _ _ ⟨rfl, rfl⟩) | (go_at_call 39; refine (infPos_any _).mono ?_; rintro _ _ ⟨rfl, rfl⟩) | (go_at_call 39; refine (infNeg_any _).mono ?_; rintro _ _ ⟨rfl, rfl⟩) | (go_at_call 46; refine (negNought_any _).mono ?_; rintro _ _ ⟨rfl, rfl⟩) | (go_at_call 43; refine (bit_any _ _).mono ?_; rintro _ _ ⟨rfl, rfl⟩))
    go_ret
    exact ⟨rfl, rfl⟩
end Go.Proofs.Ytfhcgnkjncfeiaa
