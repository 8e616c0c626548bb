/- Contracts of package mean: held, sums, slices.Max. -/
import Derived.Test.YtfhcgnkjncfeiaaKe
import Derived.Test.YtfhcgnkjncfeiaaFlF
import Derived.Lib.MinMax
namespace Go.Proofs.Ytfhcgnkjncfeiaa
open Go.ChangeShapes Go.WideShapes Go.RowKit Fl

/-- a count, brought to where it may be -/
def heldI (n : Int) : Int := min (max n 0) 1000000
theorem heldI_bd (n : Int) : 0 ≤ heldI n ∧ heldI n ≤ 1000000 := by unfold heldI; omega
/-- the sum of the first k -/
def hs (f : Nat → Int) : Nat → Int
  | 0 => 0
  | k + 1 => hs f k + heldI (f k)
/-- the sum of their squares -/
def hq (f : Nat → Int) : Nat → Int
  | 0 => 0
  | k + 1 => hq f k + heldI (f k) * heldI (f k)
theorem hs_bd (f : Nat → Int) (k : Nat) : 0 ≤ hs f k ∧ hs f k ≤ 1000000 * k := by
  induction k with
  | zero => simp [hs]
  | succ k ih => have := heldI_bd (f k); simp only [hs]; omega
theorem sq_bd {x : Int} (h : 0 ≤ x ∧ x ≤ 1000000) : 0 ≤ x * x ∧ x * x ≤ 1000000000000 :=
  ⟨Int.mul_nonneg h.1 h.1, Int.le_trans (Int.mul_le_mul h.2 h.2 h.1 (by decide)) (by decide)⟩
theorem hq_bd (f : Nat → Int) (k : Nat) : 0 ≤ hq f k ∧ hq f k ≤ 1000000000000 * k := by
  induction k with
  | zero => simp [hq]
  | succ k ih => have := sq_bd (heldI_bd (f k)); simp only [hq]; omega
/-- whole numbers in a block's row -/
def IntsAt (w : World) (b off n : Nat) (f : Nat → Int) : Prop := ∀ j, j < n → cellAt (obj w b) (off + j) = some (.int .i64 (f j))

set_option maxHeartbeats 400000 in
theorem held_any (n : Int) (w : World) : Calls Try.prog 69 #[.int .i64 n] w fun e w' => e = .returned (.int .i64 (heldI n)) ∧ w = w' := by
  go_enter Try.func69, Try.ntmps69
  go_wp2
  go_ret
  exact ⟨rfl, rfl⟩
set_option maxHeartbeats 400000 in
theorem rheld_any (n : Int) (w : World) : Calls Try.prog 73 #[.int .i64 n] w fun e w' => e = .returned (.int .i64 (heldI n)) ∧ w = w' := by
  have h : max 0 (min n 1000000) = heldI n := by unfold heldI; omega
  go_enter Try.func73, Try.ntmps73
  go_wp2
  go_ret
  exact ⟨rfl, rfl⟩

theorem results_tmp4 {fn : Func} {t u v x : Tmp} (h : fn.results = #[.tmp t, .tmp u, .tmp v, .tmp x]) (tmps : Array Value) (P : Program) (w : World) :
    (results fn tmps).run P w = .ok (.tuple #[tmps.getD t undef, tmps.getD u undef, tmps.getD v undef, tmps.getD x undef]) w := by
  simp [results, h]
set_option maxHeartbeats 1600000 in
theorem sums_any (f : Nat → Int) (b off n cap : Nat) (w : World) (hc : IntsAt w b off n f) (hn : n ≤ cap) (hn2 : cap ≤ 9223372036854775807) :
    Calls Try.prog 67 #[.slice (some ⟨b, off, none⟩) n cap] w fun e w' => e = .returned (.tuple #[.int .i64 n, .int .i64 (hs f (min n 200)), .int .i64 (hq f (min n 200)), .bool (decide (1 ≤ n) && decide (n ≤ 200))]) ∧ w = w' := by
  obtain ⟨m, hm⟩ : ∃ m, min n 200 = m := ⟨_, rfl⟩
  rw [hm]
  have hmi : min (n : Int) 200 = (m : Int) := by omega
  have hmn : m ≤ n := by omega
  have m0 : (0 : Int) ≤ (m : Int) := by omega
  have m1 : (m : Int) ≤ (cap : Int) := by omega
  have HM := Lib.hid hm
  have HC := Lib.hid hc
  have HN := Lib.hid hmn
  have m200 := Lib.hid (show m ≤ 200 by omega)
  clear hm hc hmn
  go_enter Try.func67, Try.ntmps67
  go_wp2
  go_loopw [3, 4, 14] (fun s q i wr => ∃ k : Nat, k ≤ m ∧ i = .int .i64 k ∧ s = .int .i64 (hs f k) ∧ q = .int .i64 (hq f k) ∧ wr = w) (fun _ _ i _ => m - (intOf i).toNat)
  case atStart => exact ⟨0, by omega, rfl, rfl, rfl, rfl⟩
  case round =>
    obtain ⟨k, hk, rfl, rfl, rfl, rfl⟩ := hrel
    by_cases hlt : k < m
    · have hltz : (k : Int) < (m : Int) := by omega
      have cK := HC.out k (by have := HN.out; omega)
      have b1 := hs_bd f k
      have b2 := hq_bd f k
      have b3 := heldI_bd (f k)
      have b4 := sq_bd b3
      have k200 := m200.out
      have w1 : IntKind.i64.wrap (hs f k + heldI (f k)) = hs f (k + 1) := by rw [IntKind.wrap_i64]; simp only [hs]; omega
      have w2 : IntKind.i64.wrap (heldI (f k) * heldI (f k)) = heldI (f k) * heldI (f k) := by rw [IntKind.wrap_i64]; omega
      have w3 : IntKind.i64.wrap (hq f k + heldI (f k) * heldI (f k)) = hq f (k + 1) := by rw [IntKind.wrap_i64]; simp only [hq]; omega
      clear b1 b2 b3 b4 k200
      go_wp2_with (go_at_call 69; refine (held_any _ _).mono ?_; rintro _ _ ⟨rfl, rfl⟩)
      exact ⟨⟨k + 1, by omega, by simp, rfl, rfl, trivial⟩, by simp only [intOf]; omega⟩
    · have : k = m := by omega
      subst this
      have hltz : ¬ (k : Int) < (k : Int) := by omega
      by_cases h1 : 1 ≤ n
      · have d1 : decide ((n : Int) ≥ 1) = true := decide_eq_true (by omega)
        by_cases h2 : n ≤ 200
        · have d2 : decide ((n : Int) ≤ 200) = true := decide_eq_true (by omega)
          go_wp2
          (try simp only [Exit.inBlock, Exit.then]); refine bodyPost_ret (results_tmp4 rfl _ _ _) rfl ?_
          exact ⟨by simp [h1, h2], rfl⟩
        · have d2 : decide ((n : Int) ≤ 200) = false := decide_eq_false (by omega)
          go_wp2
          (try simp only [Exit.inBlock, Exit.then]); refine bodyPost_ret (results_tmp4 rfl _ _ _) rfl ?_
          exact ⟨by simp [h2], rfl⟩
      · have d1 : decide ((n : Int) ≥ 1) = false := decide_eq_false (by omega)
        go_wp2
        (try simp only [Exit.inBlock, Exit.then]); refine bodyPost_ret (results_tmp4 rfl _ _ _) rfl ?_
        exact ⟨by simp [h1], rfl⟩

set_option maxHeartbeats 800000 in
/-- of none -/
theorem sums_none (ao : Option Addr) (cap : Nat) (w : World) : Calls Try.prog 67 #[.slice ao 0 cap] w fun e w' => e = .returned (.tuple #[.int .i64 0, .int .i64 0, .int .i64 0, .bool false]) ∧ w = w' := by
  have hmi : min (0 : Int) 200 = 0 := by decide
  cases ao
  all_goals
    go_enter Try.func67, Try.ntmps67
    go_wp2
    go_loopw [3, 4, 14] (fun s q i wr => i = .int .i64 0 ∧ s = .int .i64 0 ∧ q = .int .i64 0 ∧ wr = w) (fun _ _ _ _ => 0)
    case atStart => exact ⟨rfl, rfl, rfl, rfl⟩
    case round =>
      obtain ⟨rfl, rfl, rfl, rfl⟩ := hrel
      go_wp2
      (try simp only [Exit.inBlock, Exit.then]); refine bodyPost_ret (results_tmp4 rfl _ _ _) rfl ?_
      exact ⟨rfl, rfl⟩

/-! ### the greatest -/
def maxI (f : Nat → Int) : Nat → Int
  | 0 => f 0
  | k + 1 => max (maxI f k) (f (k + 1))
set_option maxHeartbeats 1600000 in
theorem maxI_any (f : Nat → Int) (b off n cap : Nat) (w : World) (hc : IntsAt w b off n f) (h0 : 1 ≤ n) (hn2 : n ≤ 9223372036854775807) :
    Calls Try.prog 70 #[.slice (some ⟨b, off, none⟩) n cap] w fun e w' => e = .returned (.int .i64 (maxI f (n - 1))) ∧ w = w' := by
  have c0 : cellAt (obj w b) off = some (.int .i64 (f 0)) := hc 0 (by omega)
  have hp : (0 : Int) < (n : Int) := by omega
  have hp2 : 0 < n := by omega
  have hn1 : ¬ (n : Int) < 1 := by omega
  have HC := Lib.hid hc
  clear hc
  go_enter Try.func70, Try.ntmps70
  go_wp2
  go_loopw [3, 4] (fun s i wr => ∃ t : Nat, t + 1 ≤ n ∧ i = .int .i64 ((t : Int) + 1) ∧ s = .int .i64 (maxI f t) ∧ wr = w) (fun _ i _ => n - (intOf i).toNat)
  case atStart => exact ⟨0, by omega, rfl, rfl, rfl⟩
  case round =>
    obtain ⟨t, ht, rfl, rfl, rfl⟩ := hrel
    clear c0
    by_cases hlt : t + 1 < n
    · have hltz : (t : Int) + 1 < (n : Int) := by omega
      have cT := HC.out (t + 1) hlt
      have hs : max (maxI f t) (f (t + 1)) = maxI f (t + 1) := rfl
      obtain ⟨j, hj⟩ : ∃ j, j = t + 1 := ⟨_, rfl⟩
      have ej : (t : Int) + 1 = (j : Int) := by omega
      rw [← hj] at cT hs hlt
      have pj : (0 : Int) ≤ (j : Int) := by omega
      have w1 : IntKind.i64.wrap ((j : Int) + 1) = (j : Int) + 1 := by rw [IntKind.wrap_i64]; omega
      have hj' := Lib.hid hj
      rw [ej] at hltz ⊢
      have hjm := Lib.hid hlt
      clear ej hj ht hlt
      go_wp2
      exact ⟨⟨j, by have := hjm.out; omega, rfl, rfl, trivial⟩, by have := hj'.out; have := hjm.out; simp only [intOf]; omega⟩
    · have et : t = n - 1 := by omega
      subst et
      have e3 : ((n - 1 : Nat) : Int) + 1 = (n : Int) := by omega
      rw [e3]
      go_wp2
      go_ret
      exact ⟨rfl, rfl⟩
end Go.Proofs.Ytfhcgnkjncfeiaa
