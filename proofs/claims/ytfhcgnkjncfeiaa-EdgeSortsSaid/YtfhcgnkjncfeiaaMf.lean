/- Contracts of the document's answers of layer 2: Mean, Variance, Ratio, Uneven. -/
import Derived.Test.YtfhcgnkjncfeiaaMd
import Derived.Test.YtfhcgnkjncfeiaaKf
import Derived.Test.YtfhcgnkjncfeiaaFlK
namespace Go.Proofs.Ytfhcgnkjncfeiaa
open Go.ChangeShapes Go.WideShapes Go.RowKit Fl

theorem okN_false {n : Nat} (h : ¬ (1 ≤ n ∧ n ≤ 200)) : okN n = false := by
  unfold okN
  cases h2 : (decide (1 ≤ n) && decide (n ≤ 200)) with
  | false => rfl
  | true => simp at h2; exact absurd h2 h
set_option maxHeartbeats 1600000 in
theorem rmean_any (f : Nat → Int) (b off n cap : Nat) (w : World) (hc : IntsAt w b off n f) (h1 : 1 ≤ n) :
    Calls Try.prog 31 #[.slice (some ⟨b, off, none⟩) n cap] w fun e w' => e = .returned (.float .f64 (meanF f n)) ∧ w = w' := by
  by_cases h : 200 < n
  · have d : decide (200 < (n : Int)) = true := decide_eq_true (by omega)
    have e : meanF f n = NANW := by unfold meanF; rw [okN_false (by omega)]; rfl
    rw [e]
    clear hc h h1 e
    go_enter Try.func31, Try.ntmps31
    go_wp2_with (first | (go_at_call 36; refine (cmp_any _ _ _ (by assumption) (by assumption)).mono ?_; rintro _ _ ⟨rfl, rfl⟩) | (go_at_call 30; refine (same_any _ _ _ (by assumption) (by assumption)).mono ?_; rintro _ _ ⟨rfl, rfl⟩) | (go_at_call 68; refine (isNaN_any _ _).mono ?_; rintro _ _ ⟨rfl, rfl⟩) | (go_at_call 28; refine (isInf_any _ _ (by assumption) (by assumption)).mono ?_; rintro _ _ ⟨rfl, rfl⟩) | (go_at_call 40; refine (nan_any _).mono ?_; rintro _ _ ⟨rfl, rfl⟩) | (go_at_call 39; refine (infPos_any _).mono ?_; rintro _ _ ⟨rfl, rfl⟩) | (go_at_call 39; refine (infNeg_any _).mono ?_; rintro _ _ ⟨rfl, rfl⟩) | (go_at_call 46; refine (negNought_any _).mono ?_; rintro _ _ ⟨rfl, rfl⟩) | (go_at_call 43; refine (bit_any _ _).mono ?_; rintro _ _ ⟨rfl, rfl⟩))
    go_ret
    exact ⟨rfl, rfl⟩
  · have d : decide (200 < (n : Int)) = false := decide_eq_false (by omega)
    have e : meanF f n = quoW (hs f n) n := by unfold meanF; rw [okN_true (by omega)]; rfl
    rw [e]
    have hb := hs_bd f n
    have hq3 := quoW_some (hs f n) n (by omega) (by omega)
    have hf1 : floatOfInt .f64 (hs f n) = flInt (hs f n) := rfl
    have hf2 : floatOfInt .f64 (n : Int) = flInt n := rfl
    have n0 : ¬ n = 0 := by omega
    have n0' : ¬ (n : Int) = 0 := by omega
    have n0'' : ((n : Int) == 0) = false := by simp; omega
    have H200 := Lib.hid (show n ≤ 200 by omega)
    have HC := Lib.hid hc
    clear hb hc h h1 e
    go_enter Try.func31, Try.ntmps31
    go_wp2_with fail
    go_loopw [3, 17] (fun s i wr => ∃ k : Nat, k ≤ n ∧ i = .int .i64 k ∧ s = .int .i64 (hs f k) ∧ wr = w) (fun _ i _ => n - (intOf i).toNat)
    case atStart => exact ⟨0, by omega, rfl, rfl, rfl⟩
    case round =>
      obtain ⟨k, hk, rfl, rfl, rfl⟩ := hrel
      by_cases hlt : k < n
      · have hltz : (k : Int) < (n : Int) := by omega
        have cK := HC.out k hlt
        have b1 := hs_bd f k
        have b3 := heldI_bd (f k)
        have k200 := H200.out
        have wk : IntKind.i64.wrap ((k : Int) + 1) = (k : Int) + 1 := by rw [IntKind.wrap_i64]; omega
        have w1 : IntKind.i64.wrap (hs f k + heldI (f k)) = hs f (k + 1) := by rw [IntKind.wrap_i64]; simp only [hs]; omega
        clear b1 b3 k200
        go_wp2_with (go_at_call 73; refine (rheld_any _ _).mono ?_; rintro _ _ ⟨rfl, rfl⟩)
        exact ⟨⟨k + 1, by omega, by simp, rfl, trivial⟩, by simp only [intOf]; omega⟩
      · have : k = n := by omega
        subst this
        have hltz : ¬ (k : Int) < (k : Int) := by omega
        go_wp2
        go_ret
        exact ⟨rfl, rfl⟩
set_option maxHeartbeats 800000 in
theorem rmean_none (ao : Option Addr) (cap : Nat) (w : World) : Calls Try.prog 31 #[.slice ao 0 cap] w fun e w' => e = .returned (.float .f64 NANW) ∧ w = w' := by
  go_enter Try.func31, Try.ntmps31
  go_wp2_with (first | (go_at_call 36; refine (cmp_any _ _ _ (by assumption) (by assumption)).mono ?_; rintro _ _ ⟨rfl, rfl⟩) | (go_at_call 30; refine (same_any _ _ _ (by assumption) (by assumption)).mono ?_; rintro _ _ ⟨rfl, rfl⟩) | (go_at_call 68; refine (isNaN_any _ _).mono ?_; rintro _ _ ⟨rfl, rfl⟩) | (go_at_call 28; refine (isInf_any _ _ (by assumption) (by assumption)).mono ?_; rintro _ _ ⟨rfl, rfl⟩) | (go_at_call 40; refine (nan_any _).mono ?_; rintro _ _ ⟨rfl, rfl⟩) | (go_at_call 39; refine (infPos_any _).mono ?_; rintro _ _ ⟨rfl, rfl⟩) | (go_at_call 39; refine (infNeg_any _).mono ?_; rintro _ _ ⟨rfl, rfl⟩) | (go_at_call 46; refine (negNought_any _).mono ?_; rintro _ _ ⟨rfl, rfl⟩) | (go_at_call 43; refine (bit_any _ _).mono ?_; rintro _ _ ⟨rfl, rfl⟩))
  go_ret
  exact ⟨rfl, rfl⟩
set_option maxHeartbeats 1600000 in
theorem rvar_any (f : Nat → Int) (b off n cap : Nat) (w : World) (hc : IntsAt w b off n f) (h1 : 1 ≤ n) :
    Calls Try.prog 32 #[.slice (some ⟨b, off, none⟩) n cap] w fun e w' => e = .returned (.float .f64 (varF f n)) ∧ w = w' := by
  by_cases h : 200 < n
  · have d : decide (200 < (n : Int)) = true := decide_eq_true (by omega)
    have e : varF f n = NANW := by unfold varF; rw [okN_false (by omega)]; rfl
    rw [e]
    clear hc h h1 e
    go_enter Try.func32, Try.ntmps32
    go_wp2_with (first | (go_at_call 36; refine (cmp_any _ _ _ (by assumption) (by assumption)).mono ?_; rintro _ _ ⟨rfl, rfl⟩) | (go_at_call 30; refine (same_any _ _ _ (by assumption) (by assumption)).mono ?_; rintro _ _ ⟨rfl, rfl⟩) | (go_at_call 68; refine (isNaN_any _ _).mono ?_; rintro _ _ ⟨rfl, rfl⟩) | (go_at_call 28; refine (isInf_any _ _ (by assumption) (by assumption)).mono ?_; rintro _ _ ⟨rfl, rfl⟩) | (go_at_call 40; refine (nan_any _).mono ?_; rintro _ _ ⟨rfl, rfl⟩) | (go_at_call 39; refine (infPos_any _).mono ?_; rintro _ _ ⟨rfl, rfl⟩) | (go_at_call 39; refine (infNeg_any _).mono ?_; rintro _ _ ⟨rfl, rfl⟩) | (go_at_call 46; refine (negNought_any _).mono ?_; rintro _ _ ⟨rfl, rfl⟩) | (go_at_call 43; refine (bit_any _ _).mono ?_; rintro _ _ ⟨rfl, rfl⟩))
    go_ret
    exact ⟨rfl, rfl⟩
  · have d : decide (200 < (n : Int)) = false := decide_eq_false (by omega)
    have e : varF f n = quoW (vN f n) (n * n) := by unfold varF; rw [okN_true (by omega)]; rfl
    rw [e]
    have hb := vN_bd f n (by omega)
    have hnn := nn_bd n (by omega)
    have hq3 := quoW_some (vN f n) (n * n) (by omega) (by omega)
    have hf1 : floatOfInt .f64 (vN f n) = flInt (vN f n) := rfl
    have hf2 : floatOfInt .f64 ((n : Int) * n) = flInt ((n : Int) * n) := rfl
    have g1 := hq_bd f n
    have g3 : 0 ≤ (n : Int) * hq f n ∧ (n : Int) * hq f n ≤ 200 * 200000000000000 := ⟨Int.mul_nonneg (by omega) g1.1, Int.mul_le_mul (by omega) (by omega) g1.1 (by decide)⟩
    have g4 := hs_bd f n
    have g5 : 0 ≤ hs f n * hs f n ∧ hs f n * hs f n ≤ 200000000 * 200000000 := ⟨Int.mul_nonneg g4.1 g4.1, Int.mul_le_mul (by omega) (by omega) g4.1 (by decide)⟩
    have w1 : IntKind.i64.wrap ((n : Int) * hq f n) = n * hq f n := by rw [IntKind.wrap_i64]; omega
    have w2 : IntKind.i64.wrap (hs f n * hs f n) = hs f n * hs f n := by rw [IntKind.wrap_i64]; omega
    have w3 : IntKind.i64.wrap (n * hq f n - hs f n * hs f n) = vN f n := by
      have : n * hq f n - hs f n * hs f n = vN f n := rfl
      rw [this, IntKind.wrap_i64]; omega
    have w4 : IntKind.i64.wrap ((n : Int) * n) = (n : Int) * n := by rw [IntKind.wrap_i64]; omega
    have n0 : ¬ n = 0 := by omega
    have n0' : ¬ (n : Int) = 0 := by omega
    have n0'' : ((n : Int) == 0) = false := by simp; omega
    have H200 := Lib.hid (show n ≤ 200 by omega)
    have HC := Lib.hid hc
    have W1 := Lib.hid w1
    have W2 := Lib.hid w2
    have W3 := Lib.hid w3
    have W4 := Lib.hid w4
    clear hb hc h h1 e hnn g1 g3 g4 g5 w1 w2 w3 w4
    go_enter Try.func32, Try.ntmps32
    go_wp2_with fail
    go_loopw [3, 4, 18] (fun s q i wr => ∃ k : Nat, k ≤ n ∧ i = .int .i64 k ∧ s = .int .i64 (hs f k) ∧ q = .int .i64 (hq f k) ∧ wr = w) (fun _ _ i _ => n - (intOf i).toNat)
    case atStart => exact ⟨0, by omega, rfl, rfl, rfl, rfl⟩
    case round =>
      obtain ⟨k, hk, rfl, rfl, rfl, rfl⟩ := hrel
      by_cases hlt : k < n
      · have hltz : (k : Int) < (n : Int) := by omega
        have cK := HC.out k hlt
        have b1 := hs_bd f k
        have b2 := hq_bd f k
        have b3 := heldI_bd (f k)
        have b4 := sq_bd b3
        have k200 := H200.out
        have wk : IntKind.i64.wrap ((k : Int) + 1) = (k : Int) + 1 := by rw [IntKind.wrap_i64]; omega
        have v1 : IntKind.i64.wrap (hs f k + heldI (f k)) = hs f (k + 1) := by rw [IntKind.wrap_i64]; simp only [hs]; omega
        have v2 : IntKind.i64.wrap (heldI (f k) * heldI (f k)) = heldI (f k) * heldI (f k) := by rw [IntKind.wrap_i64]; omega
        have v3 : IntKind.i64.wrap (hq f k + heldI (f k) * heldI (f k)) = hq f (k + 1) := by rw [IntKind.wrap_i64]; simp only [hq]; omega
        clear b1 b2 b3 b4 k200
        go_wp2_with (go_at_call 73; refine (rheld_any _ _).mono ?_; rintro _ _ ⟨rfl, rfl⟩)
        exact ⟨⟨k + 1, by omega, by simp, rfl, rfl, trivial⟩, by simp only [intOf]; omega⟩
      · have : k = n := by omega
        subst this
        have hltz : ¬ (k : Int) < (k : Int) := by omega
        have w1 := W1.out
        have w2 := W2.out
        have w3 := W3.out
        have w4 := W4.out
        go_wp2
        go_ret
        exact ⟨rfl, rfl⟩
set_option maxHeartbeats 800000 in
theorem rvar_none (ao : Option Addr) (cap : Nat) (w : World) : Calls Try.prog 32 #[.slice ao 0 cap] w fun e w' => e = .returned (.float .f64 NANW) ∧ w = w' := by
  go_enter Try.func32, Try.ntmps32
  go_wp2_with (first | (go_at_call 36; refine (cmp_any _ _ _ (by assumption) (by assumption)).mono ?_; rintro _ _ ⟨rfl, rfl⟩) | (go_at_call 30; refine (same_any _ _ _ (by assumption) (by assumption)).mono ?_; rintro _ _ ⟨rfl, rfl⟩) | (go_at_call 68; refine (isNaN_any _ _).mono ?_; rintro _ _ ⟨rfl, rfl⟩) | (go_at_call 28; refine (isInf_any _ _ (by assumption) (by assumption)).mono ?_; rintro _ _ ⟨rfl, rfl⟩) | (go_at_call 40; refine (nan_any _).mono ?_; rintro _ _ ⟨rfl, rfl⟩) | (go_at_call 39; refine (infPos_any _).mono ?_; rintro _ _ ⟨rfl, rfl⟩) | (go_at_call 39; refine (infNeg_any _).mono ?_; rintro _ _ ⟨rfl, rfl⟩) | (go_at_call 46; refine (negNought_any _).mono ?_; rintro _ _ ⟨rfl, rfl⟩) | (go_at_call 43; refine (bit_any _ _).mono ?_; rintro _ _ ⟨rfl, rfl⟩))
  go_ret
  exact ⟨rfl, rfl⟩

theorem heldI_held (p : Int) : heldI (heldI p) = heldI p := heldI_in (heldI_bd p)
theorem ratio_held (p q : Int) : ratioF p q = ratioF (heldI p) (heldI q) := by unfold ratioF; rw [heldI_held, heldI_held]
set_option maxHeartbeats 800000 in
theorem rratio_any (p q : Int) (w : World) : Calls Try.prog 33 #[.int .i64 p, .int .i64 q] w fun e w' => e = .returned (.float .f64 (ratioF p q)) ∧ w = w' := by
  rw [ratio_held]
  have bp := heldI_bd p
  have bq := heldI_bd q
  have P := fun w => Lib.hid (rheld_any p w)
  have Q := fun w => Lib.hid (rheld_any q w)
  generalize heldI p = a at bp P ⊢
  generalize heldI q = b at bq Q ⊢
  by_cases hb : b = 0
  · subst hb
    by_cases ha : a = 0
    · subst ha
      have e : ratioF 0 0 = NANW := by kernel_rfl
      rw [e]
      clear bp bq e
      go_enter Try.func33, Try.ntmps33
      go_wp2_with fail
      refine (P _).out.mono ?_
      rintro _ _ ⟨rfl, rfl⟩
      go_wp2_with fail
      refine (Q _).out.mono ?_
      rintro _ _ ⟨rfl, rfl⟩
      go_wp2_with (first | (go_at_call 36; refine (cmp_any _ _ _ (by assumption) (by assumption)).mono ?_; rintro _ _ ⟨rfl, rfl⟩) | (go_at_call 30; refine (same_any _ _ _ (by assumption) (by assumption)).mono ?_; rintro _ _ ⟨rfl, rfl⟩) | (go_at_call 68; refine (isNaN_any _ _).mono ?_; rintro _ _ ⟨rfl, rfl⟩) | (go_at_call 28; refine (isInf_any _ _ (by assumption) (by assumption)).mono ?_; rintro _ _ ⟨rfl, rfl⟩) | (go_at_call 40; refine (nan_any _).mono ?_; rintro _ _ ⟨rfl, rfl⟩) | (go_at_call 39; refine (infPos_any _).mono ?_; rintro _ _ ⟨rfl, rfl⟩) | (go_at_call 39; refine (infNeg_any _).mono ?_; rintro _ _ ⟨rfl, rfl⟩) | (go_at_call 46; refine (negNought_any _).mono ?_; rintro _ _ ⟨rfl, rfl⟩) | (go_at_call 43; refine (bit_any _ _).mono ?_; rintro _ _ ⟨rfl, rfl⟩))
      go_ret
      exact ⟨rfl, rfl⟩
    · have e := ratio_inf a (by omega)
      rw [e]
      have a0 : (a == 0) = false := by simp; exact ha
      clear bp bq e
      go_enter Try.func33, Try.ntmps33
      go_wp2_with fail
      refine (P _).out.mono ?_
      rintro _ _ ⟨rfl, rfl⟩
      go_wp2_with fail
      refine (Q _).out.mono ?_
      rintro _ _ ⟨rfl, rfl⟩
      go_wp2_with (first | (go_at_call 36; refine (cmp_any _ _ _ (by assumption) (by assumption)).mono ?_; rintro _ _ ⟨rfl, rfl⟩) | (go_at_call 30; refine (same_any _ _ _ (by assumption) (by assumption)).mono ?_; rintro _ _ ⟨rfl, rfl⟩) | (go_at_call 68; refine (isNaN_any _ _).mono ?_; rintro _ _ ⟨rfl, rfl⟩) | (go_at_call 28; refine (isInf_any _ _ (by assumption) (by assumption)).mono ?_; rintro _ _ ⟨rfl, rfl⟩) | (go_at_call 40; refine (nan_any _).mono ?_; rintro _ _ ⟨rfl, rfl⟩) | (go_at_call 39; refine (infPos_any _).mono ?_; rintro _ _ ⟨rfl, rfl⟩) | (go_at_call 39; refine (infNeg_any _).mono ?_; rintro _ _ ⟨rfl, rfl⟩) | (go_at_call 46; refine (negNought_any _).mono ?_; rintro _ _ ⟨rfl, rfl⟩) | (go_at_call 43; refine (bit_any _ _).mono ?_; rintro _ _ ⟨rfl, rfl⟩))
      go_ret
      exact ⟨rfl, rfl⟩
  · rw [ratio_in a b bp (by omega)]
    have hq3 := quoW_some a b (by omega) (by omega)
    have hf1 : floatOfInt .f64 a = flInt a := rfl
    have hf2 : floatOfInt .f64 b = flInt b := rfl
    have b0 : (b == 0) = false := by simp; exact hb
    clear bp bq
    go_enter Try.func33, Try.ntmps33
    go_wp2_with fail
    refine (P _).out.mono ?_
    rintro _ _ ⟨rfl, rfl⟩
    go_wp2_with fail
    refine (Q _).out.mono ?_
    rintro _ _ ⟨rfl, rfl⟩
    go_wp2_with fail
    go_ret
    exact ⟨rfl, rfl⟩

end Go.Proofs.Ytfhcgnkjncfeiaa
