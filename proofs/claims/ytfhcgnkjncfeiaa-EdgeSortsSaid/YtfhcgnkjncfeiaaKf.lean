/- Contracts of the document's answers of layer 1: rank, Cmp. -/
import Derived.Test.YtfhcgnkjncfeiaaKe
namespace Go.Proofs.Ytfhcgnkjncfeiaa
open Go.ChangeShapes Go.WideShapes Go.RowKit Fl

theorem and_low (x : Nat) (h : Wd x) : bits .and .u64 (x : Int) 9223372036854775807 = (rg x : Nat) := by
  have h1 : bits .and .u64 (x : Int) 9223372036854775807 = IntKind.u64.wrap (((BitVec.ofInt 64 (x : Int) &&& BitVec.ofInt 64 9223372036854775807).toNat : Nat) : Int) := rfl
  rw [h1, BitVec.toNat_and]
  have e : (BitVec.ofInt 64 9223372036854775807).toNat = 2 ^ 63 - 1 := by decide
  have e2 : (BitVec.ofInt 64 (x : Int)).toNat = x := by
    rw [BitVec.toNat_ofInt]; unfold Wd at h; omega
  rw [e, e2, Nat.and_two_pow_sub_one_eq_mod]
  have := rg_lt x
  show IntKind.u64.wrap ((rg x : Nat) : Int) = _
  rw [IntKind.wrap_u64]; omega
set_option maxHeartbeats 800000 in
theorem rrank_any (x : Nat) (w : World) (hx : Wd x) : Calls Try.prog 72 #[.float .f64 x] w fun e w' => e = .returned (.int .i64 (rank x)) ∧ w = w' := by
  have h1 := feq_self x
  have h2 := and_low x hx
  have h3 := rg_lt x
  have h4 : wrap64 ((rg x : Nat) : Int) = rg x := by unfold wrap64; omega
  have h5 : IntKind.i64.wrap (-1 - ((rg x : Nat) : Int)) = -1 - (rg x : Nat) := by rw [IntKind.wrap_i64]; omega
  have h8 : sg x = decide (x / 9223372036854775808 = 1) := by unfold sg; unfold Wd at hx; have : x / 9223372036854775808 = 0 ∨ x / 9223372036854775808 = 1 := by omega
                                                              rcases this with h | h <;> rw [h] <;> rfl
  unfold rank
  clear h3
  cases hn : isnan x with
  | true =>
    rw [hn] at h1
    go_enter Try.func72, Try.ntmps72
    go_wp2
    go_ret
    exact ⟨rfl, rfl⟩
  | false =>
    rw [hn] at h1
    cases hs : sg x with
    | true =>
      have h6 := Lib.hid h8
      have h7 : x / 9223372036854775808 = 1 := by rw [hs] at h8; exact of_decide_eq_true h8.symm
      clear h8
      go_enter Try.func72, Try.ntmps72
      go_wp2
      go_ret
      exact ⟨rfl, rfl⟩
    | false =>
      have h7 : x / 9223372036854775808 = 0 := by
        rw [hs] at h8; have := of_decide_eq_false h8.symm; unfold Wd at hx; omega
      have h9 : rg x = x := by unfold rg; omega
      clear h8
      rw [h9]
      go_enter Try.func72, Try.ntmps72
      go_wp2
      go_ret
      exact ⟨rfl, rfl⟩
set_option maxHeartbeats 800000 in
theorem rcmp_any (a b : Nat) (w : World) (wa : Wd a) (wb : Wd b) : Calls Try.prog 29 #[.float .f64 a, .float .f64 b] w fun e w' => e = .returned (.int .i64 (ecmp a b)) ∧ w = w' := by
  unfold ecmp cmpI
  by_cases h1 : rank a < rank b
  · rw [if_pos h1]
    go_enter Try.func29, Try.ntmps29
    go_wp2_with (go_at_call 72; refine (rrank_any _ _ (by assumption)).mono ?_; rintro _ _ ⟨rfl, rfl⟩)
    go_ret
    exact ⟨rfl, rfl⟩
  · rw [if_neg h1]
    by_cases h2 : rank b < rank a
    · rw [if_pos h2]
      go_enter Try.func29, Try.ntmps29
      go_wp2_with (go_at_call 72; refine (rrank_any _ _ (by assumption)).mono ?_; rintro _ _ ⟨rfl, rfl⟩)
      go_ret
      exact ⟨rfl, rfl⟩
    · rw [if_neg h2]
      go_enter Try.func29, Try.ntmps29
      go_wp2_with (go_at_call 72; refine (rrank_any _ _ (by assumption)).mono ?_; rintro _ _ ⟨rfl, rfl⟩)
      go_ret
      exact ⟨rfl, rfl⟩
end Go.Proofs.Ytfhcgnkjncfeiaa
