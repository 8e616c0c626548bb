/- The four laws of darninglaw4 answer true: the walks. -/
import Derived.Test.YtommjfmglfjgjaaC
namespace Go.Proofs.Ytommjfmglfjgjaa
open Go.ChangeShapes Go.WideShapes Go.RowKit

set_option maxHeartbeats 400000 in
theorem forms_walk (lo ln li : List Int) (mask : Int) (w : World) (ho : lo.length = 8) (hn : ln.length = 8) (hl : li.length = 8) (_ : (Lit.int .i64 mask).wf = true) :
    Calls Try.prog 3 #[.agg (cs lo), .agg (cs ln), .agg (cs li), .int .i64 mask] w fun e w' => e = .returned (.bool true) ∧ Below w.heap.size w w' := by
  go_enter Try.func3, Try.ntmps3
  go_wp2_with fail
  refine (masks4_any lo ln li _ ho hn hl).mono ?_
  rintro e w1 ⟨rfl, hb⟩
  have p1 := keep hb (keepA _ (keepA _ (newA w _)))
  have p2 := keep hb (keepA _ (newA _ _))
  have p3 := keep hb (newA _ _)
  simp only [World.size_alloc] at p2 p3
  have s1 := lt_of_obj p1
  have s2 := lt_of_obj p2
  have s3 := lt_of_obj p3
  have b1 : Below w.heap.size w w1 := (below3 ..).trans (hb.mono (by simp; omega))
  have H1 := Lib.hid b1
  clear hb b1
  go_wp2_with fail
  refine wp_region_more (by kernel_rfl) (by kernel_rfl) ?_
  repeat (go_big_quiet_step ((first | (go_at_call 12; exact more_call (mix_any _ _ _ _ ho hn)) | (go_at_call 13; exact more_call (mix4_any _ _ _ _ ho hn)) | (go_at_call 14; exact more_call (could_any _ _ _ _ ho hn hl)) | (go_at_call 15; exact more_call (masks_any _ _ _ _ ho hn hl)) | (go_at_call 16; exact more_call (awake4 _)))))
  refine wpQuiet_nil ?_
  intro _ hw'
  obtain ⟨y, hw''⟩ := hw'
  subst hw''
  go_wp2_with fail
  go_ret
  exact ⟨rfl, H1.out.trans ((more_below w1 y).mono H1.out.size)⟩
end Go.Proofs.Ytommjfmglfjgjaa
