/- Contracts: math.Trunc, edge.Whole, edge.Div, the law's awake. -/
import Derived.Test.YtfhcgnkjncfeiaaKc
import Derived.Test.YtfhcgnkjncfeiaaFlE
namespace Go.Proofs.Ytfhcgnkjncfeiaa
open Go.ChangeShapes Go.WideShapes Go.RowKit Fl

/-- the cut, by what a word stands for -/
def truncSem (x : Nat) : Ieee.Datum → Sem Value
  | .nan s t =>
    if FloatKind.f64.format.quiet t = t then pure (.float .f64 x) else do
    let kept ← choose (.extern "math.Floor,Ceil,Trunc,RoundToEven.signallingNaN kept" 2)
    pure (.float .f64 (if kept == 1 then x else FloatKind.f64.encode (.nan s (FloatKind.f64.format.quiet t))))
  | d => pure (.float .f64 (FloatKind.f64.encode (d.integral .zero)))
theorem trunc_sem (x : Nat) : Extern.MathFloor.toIntegral "math.archTrunc" .zero #[.float .f64 x] = truncSem x (FloatKind.f64.decode x) := rfl
theorem trunc_extern (x : Nat) (w : World) (h : isnan x = false) : (Extern.MathFloor.toIntegral "math.archTrunc" .zero #[.float .f64 x]).run Try.prog w = .ok (.float .f64 (truncF x)) w := by
  have hr := (isnan_not x).1 h
  have e : FloatKind.f64.decode x = Ieee.double.read x := rfl
  rw [trunc_sem, e]
  unfold truncF
  rcases Nat.eq_or_lt_of_le hr with h1 | h1
  · rw [read_inf h1]; rfl
  · rw [read_num h1]; rfl

set_option maxHeartbeats 400000 in
theorem trunc_any (x : Nat) (w : World) (h : isnan x = false) : Calls Try.prog 77 #[.float .f64 x] w fun e w' => e = .returned (.float .f64 (truncF x)) ∧ w = w' := by
  have c : ∀ w : World, (callFunc 88 #[.float .f64 x]).run Try.prog w = .ok (.value (.float .f64 (truncF x))) w := fun w => by rw [call_trunc, trunc_extern x w h]; rfl
  go_enter Try.func77, Try.ntmps77
  go_wp2
  go_ret
  exact ⟨rfl, rfl⟩

set_option maxHeartbeats 1600000 in
theorem whole_any (x : Nat) (w : World) : Calls Try.prog 38 #[.float .f64 x] w fun e w' => e = .returned (.tuple #[.int .i64 (if wholeOk x then wholeI x else 0), .bool (wholeOk x)]) ∧ w = w' := by
  cases h1 : isnan x with
  | true =>
    have hk : wholeOk x = false := by unfold wholeOk; rw [h1]; rfl
    rw [hk]
    clear hk
    go_enter Try.func38, Try.ntmps38
    go_wp2_with (first | (go_at_call 36; refine (cmp_any _ _ _ (by assumption) (by assumption)).mono ?_; rintro _ _ ⟨rfl, rfl⟩) | (go_at_call 30; refine (same_any _ _ _ (by assumption) (by assumption)).mono ?_; rintro _ _ ⟨rfl, rfl⟩) | (go_at_call 68; refine (isNaN_any _ _).mono ?_; rintro _ _ ⟨rfl, rfl⟩) | (go_at_call 28; refine (isInf_any _ _ (by assumption) (by assumption)).mono ?_; rintro _ _ ⟨rfl, rfl⟩) | (go_at_call 40; refine (nan_any _).mono ?_; rintro _ _ ⟨rfl, rfl⟩) | (go_at_call 39; refine (infPos_any _).mono ?_; rintro _ _ ⟨rfl, rfl⟩) | (go_at_call 39; refine (infNeg_any _).mono ?_; rintro _ _ ⟨rfl, rfl⟩) | (go_at_call 46; refine (negNought_any _).mono ?_; rintro _ _ ⟨rfl, rfl⟩) | (go_at_call 43; refine (bit_any _ _).mono ?_; rintro _ _ ⟨rfl, rfl⟩))
    go_ret2
    exact ⟨rfl, rfl⟩
  | false =>
    cases h2 : flt x 14069245235905429504 with
    | true =>
      have hk : wholeOk x = false := by unfold wholeOk; rw [h1, h2]; rfl
      rw [hk]
      clear hk
      go_enter Try.func38, Try.ntmps38
      go_wp2_with (first | (go_at_call 36; refine (cmp_any _ _ _ (by assumption) (by assumption)).mono ?_; rintro _ _ ⟨rfl, rfl⟩) | (go_at_call 30; refine (same_any _ _ _ (by assumption) (by assumption)).mono ?_; rintro _ _ ⟨rfl, rfl⟩) | (go_at_call 68; refine (isNaN_any _ _).mono ?_; rintro _ _ ⟨rfl, rfl⟩) | (go_at_call 28; refine (isInf_any _ _ (by assumption) (by assumption)).mono ?_; rintro _ _ ⟨rfl, rfl⟩) | (go_at_call 40; refine (nan_any _).mono ?_; rintro _ _ ⟨rfl, rfl⟩) | (go_at_call 39; refine (infPos_any _).mono ?_; rintro _ _ ⟨rfl, rfl⟩) | (go_at_call 39; refine (infNeg_any _).mono ?_; rintro _ _ ⟨rfl, rfl⟩) | (go_at_call 46; refine (negNought_any _).mono ?_; rintro _ _ ⟨rfl, rfl⟩) | (go_at_call 43; refine (bit_any _ _).mono ?_; rintro _ _ ⟨rfl, rfl⟩))
      go_ret2
      exact ⟨rfl, rfl⟩
    | false =>
      cases h3 : flt 4845873199050653696 x with
      | true =>
        have hk : wholeOk x = false := by unfold wholeOk; rw [h1, h2, h3]; rfl
        rw [hk]
        clear hk
        go_enter Try.func38, Try.ntmps38
        go_wp2_with (first | (go_at_call 36; refine (cmp_any _ _ _ (by assumption) (by assumption)).mono ?_; rintro _ _ ⟨rfl, rfl⟩) | (go_at_call 30; refine (same_any _ _ _ (by assumption) (by assumption)).mono ?_; rintro _ _ ⟨rfl, rfl⟩) | (go_at_call 68; refine (isNaN_any _ _).mono ?_; rintro _ _ ⟨rfl, rfl⟩) | (go_at_call 28; refine (isInf_any _ _ (by assumption) (by assumption)).mono ?_; rintro _ _ ⟨rfl, rfl⟩) | (go_at_call 40; refine (nan_any _).mono ?_; rintro _ _ ⟨rfl, rfl⟩) | (go_at_call 39; refine (infPos_any _).mono ?_; rintro _ _ ⟨rfl, rfl⟩) | (go_at_call 39; refine (infNeg_any _).mono ?_; rintro _ _ ⟨rfl, rfl⟩) | (go_at_call 46; refine (negNought_any _).mono ?_; rintro _ _ ⟨rfl, rfl⟩) | (go_at_call 43; refine (bit_any _ _).mono ?_; rintro _ _ ⟨rfl, rfl⟩))
        go_ret2
        exact ⟨rfl, rfl⟩
      | false =>
        have hc : ∀ w : World, (convert 25 3 (.float .f64 x)).run Try.prog w = .ok (.int .i64 (wholeI x)) w := fun w =>
          run_convert_float_int w 25 3 .f64 .i64 x (wholeI x) (by kernel_rfl) (by kernel_rfl) (floatToInt_reach (reach h1 h2 h3))
        cases h4 : feq x (truncF x) with
        | true =>
          have hk : wholeOk x = true := by unfold wholeOk; rw [h1, h2, h3, h4]; rfl
          rw [hk]
          clear hk
          go_enter Try.func38, Try.ntmps38
          go_wp2_with (first | (go_at_call 36; refine (cmp_any _ _ _ (by assumption) (by assumption)).mono ?_; rintro _ _ ⟨rfl, rfl⟩) | (go_at_call 30; refine (same_any _ _ _ (by assumption) (by assumption)).mono ?_; rintro _ _ ⟨rfl, rfl⟩) | (go_at_call 68; refine (isNaN_any _ _).mono ?_; rintro _ _ ⟨rfl, rfl⟩) | (go_at_call 28; refine (isInf_any _ _ (by assumption) (by assumption)).mono ?_; rintro _ _ ⟨rfl, rfl⟩) | (go_at_call 40; refine (nan_any _).mono ?_; rintro _ _ ⟨rfl, rfl⟩) | (go_at_call 39; refine (infPos_any _).mono ?_; rintro _ _ ⟨rfl, rfl⟩) | (go_at_call 39; refine (infNeg_any _).mono ?_; rintro _ _ ⟨rfl, rfl⟩) | (go_at_call 46; refine (negNought_any _).mono ?_; rintro _ _ ⟨rfl, rfl⟩) | (go_at_call 43; refine (bit_any _ _).mono ?_; rintro _ _ ⟨rfl, rfl⟩) | (go_at_call 77; refine (trunc_any _ _ (by assumption)).mono ?_; rintro _ _ ⟨rfl, rfl⟩))
          go_ret2
          exact ⟨rfl, rfl⟩
        | false =>
          have hk : wholeOk x = false := by unfold wholeOk; rw [h1, h2, h3, h4]; rfl
          rw [hk]
          clear hk hc
          go_enter Try.func38, Try.ntmps38
          go_wp2_with (first | (go_at_call 36; refine (cmp_any _ _ _ (by assumption) (by assumption)).mono ?_; rintro _ _ ⟨rfl, rfl⟩) | (go_at_call 30; refine (same_any _ _ _ (by assumption) (by assumption)).mono ?_; rintro _ _ ⟨rfl, rfl⟩) | (go_at_call 68; refine (isNaN_any _ _).mono ?_; rintro _ _ ⟨rfl, rfl⟩) | (go_at_call 28; refine (isInf_any _ _ (by assumption) (by assumption)).mono ?_; rintro _ _ ⟨rfl, rfl⟩) | (go_at_call 40; refine (nan_any _).mono ?_; rintro _ _ ⟨rfl, rfl⟩) | (go_at_call 39; refine (infPos_any _).mono ?_; rintro _ _ ⟨rfl, rfl⟩) | (go_at_call 39; refine (infNeg_any _).mono ?_; rintro _ _ ⟨rfl, rfl⟩) | (go_at_call 46; refine (negNought_any _).mono ?_; rintro _ _ ⟨rfl, rfl⟩) | (go_at_call 43; refine (bit_any _ _).mono ?_; rintro _ _ ⟨rfl, rfl⟩) | (go_at_call 77; refine (trunc_any _ _ (by assumption)).mono ?_; rintro _ _ ⟨rfl, rfl⟩))
          go_ret2
          exact ⟨rfl, rfl⟩
end Go.Proofs.Ytfhcgnkjncfeiaa
