/- darninglaw4's awake answers true. -/
import Derived.Test.YtommjfmglfjgjaaA
namespace Go.Proofs.Ytommjfmglfjgjaa
open Go.ChangeShapes Go.WideShapes Go.RowKit

set_option maxHeartbeats 400000 in
theorem awake4 (w : World) : Calls Try.prog 16 #[] w fun e w' => e = .returned (.bool true) ∧ Below w.heap.size w w' := by
  have em : mix [1, 2, 3, 0, 0, 0, 0, 0] [9, 9, 9, 0, 0, 0, 0, 0] 2 = [1, 9, 3, 0, 0, 0, 0, 0] := by decide
  have e1 : msk [1, 2, 3, 0, 0, 0, 0, 0] [9, 9, 9, 0, 0, 0, 0, 0] [1, 9, 3, 0, 0, 0, 0, 0] 8 = 32 := by decide
  have e2 : msk [1, 2, 3, 0, 0, 0, 0, 0] [9, 9, 9, 0, 0, 0, 0, 0] [5, 0, 0, 0, 0, 0, 0, 0] 8 = 0 := by decide
  go_enter Try.func16, Try.ntmps16
  go_wp2_with fail
  refine (mix_any [1, 2, 3, 0, 0, 0, 0, 0] [9, 9, 9, 0, 0, 0, 0, 0] 2 _ rfl rfl).mono ?_
  rintro e w1 ⟨rfl, hb⟩
  rw [em]
  have p1 := keep hb (keepA _ (newA w _))
  have p2 := keep hb (newA _ _)
  rw [World.size_alloc] at p2
  have s1 := lt_of_obj p1
  have s2 := lt_of_obj p2
  have b1 : Below w.heap.size w w1 := (((Below.refl _ _).alloc (Nat.le_refl _) _).alloc (by simp) _).trans (hb.mono (by simp; omega))
  have H1 := Lib.hid b1
  clear hb b1
  go_wp2_with fail
  refine (could_any [1, 2, 3, 0, 0, 0, 0, 0] [9, 9, 9, 0, 0, 0, 0, 0] [1, 9, 3, 0, 0, 0, 0, 0] _ rfl rfl rfl).mono ?_
  rintro e w2 ⟨rfl, hb⟩
  rw [e1]
  have q1 := keep hb (keepA _ p1)
  have q2 := keep hb (keepA _ p2)
  have q3 := keep hb (newA _ _)
  have t1 := lt_of_obj q1
  have t2 := lt_of_obj q2
  have t3 := lt_of_obj q3
  have b2 : Below w.heap.size w w2 := (H1.out.alloc (by omega) _).trans (hb.mono (by simp; omega))
  have H2 := Lib.hid b2
  clear hb b2
  go_wp2_with fail
  refine (could_any [1, 2, 3, 0, 0, 0, 0, 0] [9, 9, 9, 0, 0, 0, 0, 0] [5, 0, 0, 0, 0, 0, 0, 0] _ rfl rfl rfl).mono ?_
  rintro e w3 ⟨rfl, hb⟩
  rw [e2]
  have r1 := keep hb q1
  have r2 := keep hb q2
  have r3 := keep hb q3
  have u1 := lt_of_obj r1
  have u2 := lt_of_obj r2
  have u3 := lt_of_obj r3
  have b3 : Below w.heap.size w w3 := H2.out.trans (hb.mono (by omega))
  have H3 := Lib.hid b3
  clear hb b3
  go_wp2_with fail
  refine (masks_any [1, 2, 3, 0, 0, 0, 0, 0] [9, 9, 9, 0, 0, 0, 0, 0] [1, 9, 3, 0, 0, 0, 0, 0] _ rfl rfl rfl).mono ?_
  rintro e w4 ⟨rfl, hb⟩
  rw [e1]
  have b4 : Below w.heap.size w w4 := H3.out.trans (hb.mono (by omega))
  have H4 := Lib.hid b4
  clear hb b4
  go_wp2_with fail
  go_ret
  exact ⟨rfl, H4.out⟩
end Go.Proofs.Ytommjfmglfjgjaa
