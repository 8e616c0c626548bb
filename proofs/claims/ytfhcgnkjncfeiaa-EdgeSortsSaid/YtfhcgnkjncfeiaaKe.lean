/- Contracts: edge.Div, the law's awake. -/
import Derived.Test.YtfhcgnkjncfeiaaKd
namespace Go.Proofs.Ytfhcgnkjncfeiaa
open Go.ChangeShapes Go.WideShapes Go.RowKit Fl

/-- the bits of no number that the machine's tape tells -/
def nanw (x y : Nat) (w : World) : Nat := Question.cut (.nanBits .f64 x y) (w.tape w.drawn (.nanBits .f64 x y))
theorem nanw_fine (x y : Nat) (w : World) : Wd (nanw x y w) ∧ isnan (nanw x y w) = true := by
  unfold nanw
  generalize w.tape w.drawn (.nanBits .f64 x y) = t
  have e : Question.cut (.nanBits .f64 x y) t = t % 2 * 9223372036854775808 + 9218868437227405312 + 1 + t / 2 % 4503599627370495 := rfl
  rw [e]
  have h1 := Nat.mod_lt (t / 2) (by decide : 4503599627370495 > 0)
  generalize t / 2 % 4503599627370495 = u at h1 ⊢
  have h2 : t % 2 = 0 ∨ t % 2 = 1 := by omega
  refine ⟨?_, ?_⟩
  · unfold Wd; rcases h2 with h | h <;> rw [h] <;> omega
  · rw [isnan_iff, INF_val]; unfold rg; rcases h2 with h | h <;> rw [h] <;> omega
/-- what a quotient's run ends with -/
def quoRes (x y : Nat) (w : World) : Option Nat → Result Value
  | some q => .ok (.float .f64 q) w
  | none => .ok (.float .f64 (nanw x y w)) w.drew
@[go_sem] theorem quoRes_some (x y : Nat) (w : World) (q : Nat) : quoRes x y w (some q) = .ok (.float .f64 q) w := rfl
@[go_sem] theorem quoRes_none (x y : Nat) (w : World) : quoRes x y w none = .ok (.float .f64 (nanw x y w)) w.drew := rfl
@[go_sem high] theorem run_quo {P : Program} (t : TypeId) (x y : Nat) (w : World) : (binOp .quo t (.float .f64 x) (.float .f64 y)).run P w = quoRes x y w (fdiv x y) := by
  cases h : fdiv x y with
  | some q => exact run_float_arith w .quo t .f64 x y q h
  | none =>
    have h' : FloatKind.f64.format.div x y = none := h
    simp [binOp, Op.floatArith, h', Question.forced, quoRes, nanw]

/-- a quotient that is told -/
def quot (x y : Nat) : Option Nat := if rg y = 0 then none else match fdiv x y with
  | some q => if isinf q then none else some q
  | none => none

set_option maxHeartbeats 1600000 in
theorem div_any (x y : Nat) (w : World) : Calls Try.prog 42 #[.float .f64 x, .float .f64 y] w fun e w' => e = .returned (.tuple #[.float .f64 ((quot x y).getD 0), .bool (quot x y).isSome]) ∧ ∃ n, w' = w.drewN n := by
  have zy := feq_zero y
  unfold quot
  by_cases hy : rg y = 0
  · rw [decide_eq_true hy] at zy
    rw [if_pos hy]
    clear hy
    go_enter Try.func42, Try.ntmps42
    go_wp2_with (first | (go_at_call 36; refine (cmp_any _ _ _ (by assumption) (by assumption)).mono ?_; rintro _ _ ⟨rfl, rfl⟩) | (go_at_call 30; refine (same_any _ _ _ (by assumption) (by assumption)).mono ?_; rintro _ _ ⟨rfl, rfl⟩) | (go_at_call 68; refine (isNaN_any _ _).mono ?_; rintro _ _ ⟨rfl, rfl⟩) | (go_at_call 28; refine (isInf_any _ _ (by assumption) (by assumption)).mono ?_; rintro _ _ ⟨rfl, rfl⟩) | (go_at_call 40; refine (nan_any _).mono ?_; rintro _ _ ⟨rfl, rfl⟩) | (go_at_call 39; refine (infPos_any _).mono ?_; rintro _ _ ⟨rfl, rfl⟩) | (go_at_call 39; refine (infNeg_any _).mono ?_; rintro _ _ ⟨rfl, rfl⟩) | (go_at_call 46; refine (negNought_any _).mono ?_; rintro _ _ ⟨rfl, rfl⟩) | (go_at_call 43; refine (bit_any _ _).mono ?_; rintro _ _ ⟨rfl, rfl⟩))
    go_ret2
    exact ⟨rfl, 0, rfl⟩
  · rw [decide_eq_false hy] at zy
    rw [if_neg hy]
    clear hy
    cases hq : fdiv x y with
    | some q =>
      obtain ⟨wq, nq⟩ := fdiv_fine hq
      dsimp only
      cases hi : isinf q
      all_goals
        simp only [Bool.false_eq_true, if_false, if_true]
        go_enter Try.func42, Try.ntmps42
        go_wp2_with (first | (go_at_call 36; refine (cmp_any _ _ _ (by assumption) (by assumption)).mono ?_; rintro _ _ ⟨rfl, rfl⟩) | (go_at_call 30; refine (same_any _ _ _ (by assumption) (by assumption)).mono ?_; rintro _ _ ⟨rfl, rfl⟩) | (go_at_call 68; refine (isNaN_any _ _).mono ?_; rintro _ _ ⟨rfl, rfl⟩) | (go_at_call 28; refine (isInf_any _ _ (by assumption) (by assumption)).mono ?_; rintro _ _ ⟨rfl, rfl⟩) | (go_at_call 40; refine (nan_any _).mono ?_; rintro _ _ ⟨rfl, rfl⟩) | (go_at_call 39; refine (infPos_any _).mono ?_; rintro _ _ ⟨rfl, rfl⟩) | (go_at_call 39; refine (infNeg_any _).mono ?_; rintro _ _ ⟨rfl, rfl⟩) | (go_at_call 46; refine (negNought_any _).mono ?_; rintro _ _ ⟨rfl, rfl⟩) | (go_at_call 43; refine (bit_any _ _).mono ?_; rintro _ _ ⟨rfl, rfl⟩))
        go_ret2
        exact ⟨rfl, 0, rfl⟩
    | none =>
      obtain ⟨wq, nq⟩ := nanw_fine x y w
      go_enter Try.func42, Try.ntmps42
      go_wp2_with (first | (go_at_call 36; refine (cmp_any _ _ _ (by assumption) (by assumption)).mono ?_; rintro _ _ ⟨rfl, rfl⟩) | (go_at_call 30; refine (same_any _ _ _ (by assumption) (by assumption)).mono ?_; rintro _ _ ⟨rfl, rfl⟩) | (go_at_call 68; refine (isNaN_any _ _).mono ?_; rintro _ _ ⟨rfl, rfl⟩) | (go_at_call 28; refine (isInf_any _ _ (by assumption) (by assumption)).mono ?_; rintro _ _ ⟨rfl, rfl⟩) | (go_at_call 40; refine (nan_any _).mono ?_; rintro _ _ ⟨rfl, rfl⟩) | (go_at_call 39; refine (infPos_any _).mono ?_; rintro _ _ ⟨rfl, rfl⟩) | (go_at_call 39; refine (infNeg_any _).mono ?_; rintro _ _ ⟨rfl, rfl⟩) | (go_at_call 46; refine (negNought_any _).mono ?_; rintro _ _ ⟨rfl, rfl⟩) | (go_at_call 43; refine (bit_any _ _).mono ?_; rintro _ _ ⟨rfl, rfl⟩))
      go_ret2
      exact ⟨rfl, 1, rfl⟩

/-- two numbers, by their place -/
def two (a b : Nat) (j : Nat) : Nat := if j = 0 then a else b
theorem two_cells {o : Option Obj} {a b : Nat} {t : TypeId} {f : Nat × Nat} (h : o = some (.cells #[.float .f64 a, .float .f64 b] t f)) (j : Nat) (hj : j < 2) : cellAt o (0 + j) = some (.float .f64 (two a b j)) := by
  subst h
  have : j = 0 ∨ j = 1 := by omega
  rcases this with rfl | rfl <;> rfl
theorem two_wd {a b : Nat} (wa : Wd a) (wb : Wd b) (j : Nat) (hj : j < 2) : Wd (two a b j) := by unfold two; split <;> assumption

theorem Below.drewN {B : Nat} {a w : World} (h : Below B a w) (n : Nat) : Below B a (w.drewN n) := ⟨h.os, h.tape, h.output, h.size, h.block⟩


set_option maxHeartbeats 1600000 in
theorem awake_any (w : World) : Calls Try.prog 37 #[] w fun e w' => e = .returned (.bool true) ∧ Below w.heap.size w w' := by
  have c1 : ecmp 9223372036854775808 0 = -1 := by kernel_rfl
  have c2 : ecmp 9221120237041090561 9218868437227405312 = 1 := by kernel_rfl
  have c3 : quot 4613937818241073152 4611686018427387904 = some 4609434218613702656 := by kernel_rfl
  have c4 : wholeOk 4619567317775286272 = true := by kernel_rfl
  have c5 : wholeI 4619567317775286272 = 7 := by kernel_rfl
  have c6 : clampF 4621256167635550208 4607182418800017408 4613937818241073152 = 4613937818241073152 := by kernel_rfl
  have c7 : minAt (two 4611686018427387904 4607182418800017408) 1 = 4607182418800017408 := by kernel_rfl
  have f1 : feq 4609434218613702656 4609434218613702656 = true := by kernel_rfl
  have f2 : feq 4613937818241073152 4613937818241073152 = true := by kernel_rfl
  have f3 : feq 4607182418800017408 4607182418800017408 = true := by kernel_rfl
  have w0 : Wd 0 := by unfold Wd; decide
  have w1 : Wd 9223372036854775808 := by unfold Wd; decide
  have w2 : Wd 9221120237041090561 := by unfold Wd; decide
  have w3 : Wd 9218868437227405312 := by unfold Wd; decide
  have w4 : Wd 4621256167635550208 := by unfold Wd; decide
  have w5 : Wd 4607182418800017408 := by unfold Wd; decide
  have w6 : Wd 4613937818241073152 := by unfold Wd; decide
  have w7 : Wd 4611686018427387904 := by unfold Wd; decide
  go_enter Try.func37, Try.ntmps37
  go_wp2_with (first | (go_at_call 36; refine (cmp_any _ _ _ (by assumption) (by assumption)).mono ?_; rintro _ _ ⟨rfl, rfl⟩) | (go_at_call 30; refine (same_any _ _ _ (by assumption) (by assumption)).mono ?_; rintro _ _ ⟨rfl, rfl⟩) | (go_at_call 68; refine (isNaN_any _ _).mono ?_; rintro _ _ ⟨rfl, rfl⟩) | (go_at_call 28; refine (isInf_any _ _ (by assumption) (by assumption)).mono ?_; rintro _ _ ⟨rfl, rfl⟩) | (go_at_call 40; refine (nan_any _).mono ?_; rintro _ _ ⟨rfl, rfl⟩) | (go_at_call 39; refine (infPos_any _).mono ?_; rintro _ _ ⟨rfl, rfl⟩) | (go_at_call 39; refine (infNeg_any _).mono ?_; rintro _ _ ⟨rfl, rfl⟩) | (go_at_call 46; refine (negNought_any _).mono ?_; rintro _ _ ⟨rfl, rfl⟩) | (go_at_call 43; refine (bit_any _ _).mono ?_; rintro _ _ ⟨rfl, rfl⟩) | (go_at_call 42; refine (div_any _ _ _).mono ?_; rintro _ _ ⟨rfl, n, rfl⟩) | (go_at_call 38; refine (whole_any _ _).mono ?_; rintro _ _ ⟨rfl, rfl⟩) | (go_at_call 41; refine (clamp_any _ _ _ _ (by assumption) (by assumption) (by assumption)).mono ?_; rintro _ _ ⟨rfl, rfl⟩) | (go_at_call 44; refine (min_any (two 4611686018427387904 4607182418800017408) _ _ _ _ _ (by decide) (by decide) (two_wd w7 w5) (two_cells (obj_alloc_at _ _ _ rfl))).mono ?_; rintro _ _ ⟨rfl, rfl⟩))
  go_ret
  exact ⟨rfl, (Below.drewN (Below.refl _ _) n).alloc (Nat.le_refl _) _⟩
end Go.Proofs.Ytfhcgnkjncfeiaa
