/- Means' awake. -/
import Derived.Test.YtfhcgnkjncfeiaaMb
import Derived.Test.YtfhcgnkjncfeiaaL4
namespace Go.Proofs.Ytfhcgnkjncfeiaa
open Go.ChangeShapes Go.WideShapes Go.RowKit Fl

set_option maxHeartbeats 400000 in
theorem isInf1_any (x : Nat) (w : World) : Calls Try.prog 28 #[.float .f64 x, .int .i64 1] w fun e w' => e = .returned (.bool (flt 9218868437227405311 x)) ∧ w = w' := by
  go_enter Try.func28, Try.ntmps28
  go_wp2
  go_ret
  exact ⟨rfl, rfl⟩
/-- two whole numbers, by their place -/
def twoI (a b : Int) (j : Nat) : Int := if j = 0 then a else b
theorem twoI_at {w : World} {g : Nat} {a b : Int} {t : TypeId} {f : Nat × Nat} (h : obj w g = some (.cells #[.int .i64 a, .int .i64 b] t f)) : IntsAt w g 0 2 (twoI a b) := by
  intro j hj
  rw [h]
  have : j = 0 ∨ j = 1 := by omega
  rcases this with rfl | rfl <;> rfl

set_option maxHeartbeats 1600000 in
theorem awake2_any (w : World) : Calls Try.prog 23 #[] w fun e w' => e = .returned (.bool true) ∧ Below w.heap.size w w' := by
  have c1 : meanF (twoI 1 2) 2 = 4609434218613702656 := by kernel_rfl
  have c2 : varF (twoI 1 3) 2 = 4607182418800017408 := by kernel_rfl
  have c3 : ratioF 1 0 = 9218868437227405312 := by kernel_rfl
  have c4 : unevenF (twoI 1 3) 2 = 4609434218613702656 := by kernel_rfl
  have f1 : feq 4609434218613702656 4609434218613702656 = true := by kernel_rfl
  have f2 : feq 4607182418800017408 4607182418800017408 = true := by kernel_rfl
  have f3 : feq NANW NANW = false := by kernel_rfl
  have f4 : flt 9218868437227405311 9218868437227405312 = true := by kernel_rfl
  go_enter Try.func23, Try.ntmps23
  go_wp2_with fail
  refine (mean_none _ _ _).mono ?_
  rintro _ _ ⟨rfl, rfl⟩
  go_wp2_with fail
  refine (mean_any (twoI 1 2) _ _ 2 2 _ (twoI_at (obj_alloc_at _ _ _ rfl)) (by decide) (by decide)).mono ?_
  rintro _ _ ⟨rfl, rfl⟩
  rw [c1]
  go_wp2_with fail
  refine (var_any (twoI 1 3) _ _ 2 2 _ (twoI_at (obj_alloc_at _ _ _ (by simp))) (by decide) (by decide)).mono ?_
  rintro _ _ ⟨rfl, rfl⟩
  rw [c2]
  go_wp2_with fail
  refine (ratio_any _ _ _).mono ?_
  rintro _ _ ⟨rfl, n, rfl⟩
  rw [c3]
  go_wp2_with fail
  refine (isInf1_any _ _).mono ?_
  rintro _ _ ⟨rfl, rfl⟩
  rw [f4]
  go_wp2_with fail
  refine (uneven_any (twoI 1 3) _ _ 2 2 _ (twoI_at (obj_alloc_at _ _ _ (by simp))) (by decide) (by decide)).mono ?_
  rintro _ _ ⟨rfl, m, rfl⟩
  rw [c4]
  go_wp2
  go_ret
  exact ⟨rfl, below_alloc (below_alloc (below_drewN (below_alloc (Below.drewN (Below.refl _ _) m))))⟩
end Go.Proofs.Ytfhcgnkjncfeiaa
