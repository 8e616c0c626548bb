/- The walk of EdgeWholes. -/
import Derived.Test.YtfhcgnkjncfeiaaL4
import Derived.Test.YtfhcgnkjncfeiaaFlF
namespace Go.Proofs.Ytfhcgnkjncfeiaa
open Go.ChangeShapes Go.WideShapes Go.RowKit Fl

theorem bits_one (n : Int) : bits .and .i64 n 1 = 0 ∨ bits .and .i64 n 1 = 1 := by
  have h1 : bits .and .i64 n 1 = IntKind.i64.wrap (((BitVec.ofInt 64 n &&& BitVec.ofInt 64 1).toNat : Nat) : Int) := rfl
  rw [h1, BitVec.toNat_and]
  have e : (BitVec.ofInt 64 1).toNat = 1 := by decide
  rw [e, Nat.and_one_is_mod]
  have : (BitVec.ofInt 64 n).toNat % 2 = 0 ∨ (BitVec.ofInt 64 n).toNat % 2 = 1 := by omega
  rcases this with h | h <;> rw [h]
  · exact Or.inl (by decide)
  · exact Or.inr (by decide)

set_option maxHeartbeats 3200000 in
theorem edgeWholes_walk (a : Int) (w : World) (_ : (Lit.int .i64 a).wf = true) :
    Calls Try.prog 10 #[.int .i64 a] w fun e w' => e = .returned (.bool true) ∧ Below w.heap.size w w' := by
  have hm0 : 0 ≤ IntKind.u64.wrap a := by rw [IntKind.wrap_u64]; omega
  obtain ⟨m, hm⟩ : ∃ m, (IntKind.u64.wrap a).tmod 9007199254740992 = m := ⟨_, rfl⟩
  have hm1 : 0 ≤ m ∧ m < 9007199254740992 := by
    rw [← hm]; constructor
    · exact Int.tmod_nonneg _ hm0
    · exact Int.tmod_lt_of_pos _ (by decide)
  have hw1 : wrap64 m = m := by unfold wrap64; omega
  obtain ⟨n, hn⟩ : ∃ n, m - 4503599627370496 = n := ⟨_, rfl⟩
  have hw2 : wrap64 n = n := by unfold wrap64; omega
  have hnb : n.natAbs ≤ 4503599627370496 := by omega
  obtain ⟨k, hk⟩ : ∃ k, n.tmod 2251799813685248 = k := ⟨_, rfl⟩
  have hkb : k.natAbs ≤ 2251799813685248 := by
    have h1 := Int.tmod_lt_of_pos n (by decide : (0 : Int) < 2251799813685248)
    have h2 := Int.lt_tmod_of_pos n (by decide : (0 : Int) < 2251799813685248)
    omega
  have hw3 : wrap64 k = k := by unfold wrap64; omega
  obtain ⟨x, hx⟩ : ∃ x, floatOfInt .f64 n = x := ⟨_, rfl⟩
  obtain ⟨y, hy⟩ : ∃ y, floatOfInt .f64 k = y := ⟨_, rfl⟩
  have x1 : wholeOk x = true ∧ wholeI x = n := by
    have := flInt_whole n (by omega)
    rw [← hx]; exact ⟨this.1, this.2.1⟩
  obtain ⟨z, hz, wz, oz⟩ := fadd_half k hkb
  have ha : ∀ t w, (binOp .add t (.float .f64 y) (.float .f64 4602678819172646912)).run Try.prog w = .ok (.float .f64 z) w := fun t w =>
    run_float_arith w .add t .f64 y 4602678819172646912 z (by rw [← hy]; exact hz)
  obtain ⟨x1, x2⟩ := x1
  have c1 : wholeOk 9218868437227405312 = false := by kernel_rfl
  have c2 : wholeOk 18442240474082181120 = false := by kernel_rfl
  have c3 : wholeOk 9221120237041090561 = false := by kernel_rfl
  have c4 : wholeOk 4845873199050653696 = true := by kernel_rfl
  have c5 : wholeI 4845873199050653696 = 9007199254740992 := by kernel_rfl
  have c6 : wholeOk 4845873199050653697 = false := by kernel_rfl
  have hb := bits_one n
  clear hm0 hm1 hnb hkb hz wz
  rcases hb with hb | hb
  · go_enter Try.func10, Try.ntmps10
    go_wp2_with (first | (go_at_call 38; refine (whole_any _ _).mono ?_; rintro _ _ ⟨rfl, rfl⟩) | (go_at_call 39; refine (infPos_any _).mono ?_; rintro _ _ ⟨rfl, rfl⟩) | (go_at_call 40; refine (nan_any _).mono ?_; rintro _ _ ⟨rfl, rfl⟩) | (go_at_call 37; refine (awake_any _).mono ?_; rintro _ _ ⟨rfl, hb⟩))
    go_ret
    exact ⟨rfl, hb⟩
  · go_enter Try.func10, Try.ntmps10
    go_wp2_with (first | (go_at_call 38; refine (whole_any _ _).mono ?_; rintro _ _ ⟨rfl, rfl⟩) | (go_at_call 39; refine (infNeg_any _).mono ?_; rintro _ _ ⟨rfl, rfl⟩) | (go_at_call 40; refine (nan_any _).mono ?_; rintro _ _ ⟨rfl, rfl⟩) | (go_at_call 37; refine (awake_any _).mono ?_; rintro _ _ ⟨rfl, hb⟩))
    go_ret
    exact ⟨rfl, hb⟩
end Go.Proofs.Ytfhcgnkjncfeiaa
