/- The laws TornForms and TornOne of darninglaw4 answer true: the walks. -/
import Derived.Test.YtommjfmglfjgjaaC
import Derived.Deep.RegionWith
namespace Go.Proofs.Ytommjfmglfjgjaa
open Go.ChangeShapes Go.WideShapes Go.RowKit

set_option maxHeartbeats 400000 in
theorem forms_walk (lo ln li : List Int) (mask : Int) (w : World) (ho : lo.length = 8) (hn : ln.length = 8) (hl : li.length = 8) (_ : (Lit.int .i64 mask).wf = true) :
    Calls Try.prog 3 #[.agg (cs lo), .agg (cs ln), .agg (cs li), .int .i64 mask] w fun e w' => e = .returned (.bool true) ∧ Below w.heap.size w w' := by
  go_enter Try.func3, Try.ntmps3
  go_wp2_with fail
  refine (masks4_any lo ln li _ ho hn hl).mono ?_
  rintro e w1 ⟨rfl, hb⟩
  have p1 := keep hb (keepA _ (keepA _ (newA w _)))
  have p2 := keep hb (keepA _ (newA _ _))
  have p3 := keep hb (newA _ _)
  simp only [World.size_alloc] at p2 p3
  have s1 := lt_of_obj p1
  have s2 := lt_of_obj p2
  have s3 := lt_of_obj p3
  have b1 : Below w.heap.size w w1 := (below3 ..).trans (hb.mono (by simp; omega))
  have H1 := Lib.hid b1
  clear hb b1
  go_wp2_with fail
  refine wp_region_more (by kernel_rfl) (by kernel_rfl) ?_
  repeat (go_big_quiet_step ((first | (go_at_call 12; exact more_call (mix_any _ _ _ _ ho hn)) | (go_at_call 13; exact more_call (mix4_any _ _ _ _ ho hn)) | (go_at_call 14; exact more_call (could_any _ _ _ _ ho hn hl)) | (go_at_call 15; exact more_call (masks_any _ _ _ _ ho hn hl)) | (go_at_call 16; exact more_call (awake4 _)))))
  refine wpQuiet_nil ?_
  intro _ hw'
  obtain ⟨y, hw''⟩ := hw'
  subst hw''
  go_wp2_with fail
  go_ret
  exact ⟨rfl, H1.out.trans ((more_below w1 y).mono H1.out.size)⟩

set_option maxHeartbeats 400000 in
theorem one_walk (lo ln : List Int) (at_ v mask : Int) (w : World) (ho : lo.length = 8) (hn : ln.length = 8) (_ : (Lit.int .i64 at_).wf = true) (_ : (Lit.int .u64 v).wf = true) (_ : (Lit.int .i64 mask).wf = true) :
    Calls Try.prog 4 #[.agg (cs lo), .agg (cs ln), .int .i64 at_, .int .u64 v, .int .i64 mask] w fun e w' => e = .returned (.bool true) ∧ Below w.heap.size w w' := by
  obtain ⟨i, hi, hT⟩ : ∃ i : Nat, i < 8 ∧ (IntKind.u64.wrap at_).tmod 8 = (i : Int) := by
    have h0 : 0 ≤ IntKind.u64.wrap at_ := by simp [IntKind.wrap, IntKind.bits, IntKind.signed]; omega
    rw [Int.tmod_eq_emod_of_nonneg h0]
    exact ⟨(IntKind.u64.wrap at_ % 8).toNat, by omega, by omega⟩
  have hi' : (i : Int) < 8 := by omega
  have hls : (lo.set i v).length = 8 := by simpa using ho
  go_enter Try.func4, Try.ntmps4
  go_wp2_with fail
  refine (mix_any lo (lo.set i v) mask _ ho hls).mono ?_
  rintro e w1 ⟨rfl, hb⟩
  have p1 := keep hb (keepA _ (keepA _ (newA w _)))
  have p2 := keep hb (keepA _ (newA _ _))
  have p3 := keep hb (newA _ _)
  simp only [World.size_alloc] at p2 p3
  have s1 := lt_of_obj p1
  have s2 := lt_of_obj p2
  have s3 := lt_of_obj p3
  have b1 : Below w.heap.size w w1 := (below3 ..).trans (hb.mono (by simp; omega))
  have H1 := Lib.hid b1
  clear hb b1
  have hm := mix_one lo i v mask ho
  have hml := mix_len lo (lo.set i v) mask
  generalize mix lo (lo.set i v) mask = m at hm hml ⊢
  have hm2 : (m = lo ∧ True) ∨ (m = lo.set i v ∧ (lo.set i v == lo) = false) := by
    rcases hm with h | h
    · exact Or.inl ⟨h, trivial⟩
    · cases hq : (lo.set i v == lo)
      · exact Or.inr ⟨h, rfl⟩
      · exact Or.inl ⟨by rw [h]; simpa using hq, trivial⟩
  have HM := Lib.hid hm2
  clear hm hm2 hT
  rcases HM.out with ⟨hm, hq⟩ | ⟨hm, hq⟩
  all_goals
    clear HM
    have hm' := hm.symm
    clear hm
    subst hm'
    go_wp2_with fail
    refine (mix_any lo ln mask _ ho hn).mono ?_
    rintro e w2 ⟨rfl, hb⟩
    have q1 := keepA (.cells (cs (mix lo ln mask)) 24) (keep hb (keepA _ p1))
    have q2 := keepA (.cells (cs (mix lo ln mask)) 24) (keep hb (keepA _ p2))
    have q4 := newA w2 (.cells (cs (mix lo ln mask)) 24)
    have b2 : Below w.heap.size w (w2.alloc (.cells (cs (mix lo ln mask)) 24)) := ((H1.out.alloc (by omega) _).trans (hb.mono (by simp; omega))).alloc (by have := hb.size; simp at this; omega) _
    have H2 := Lib.hid b2
    clear hb b2
    go_wp2_with fail
    generalize w2.alloc (.cells (cs (mix lo ln mask)) 24) = w3 at q1 q2 q4 H2 ⊢
    generalize w2.heap.size = B at q4 ⊢
    have t1 := lt_of_obj q1
    have t2 := lt_of_obj q2
    have t4 := lt_of_obj q4
    go_loopw [39] (fun i wr => ∃ k : Nat, k ≤ 8 ∧ i = .int .i64 k ∧ Below w3.heap.size w3 wr) (fun i _ => 8 - (intOf i).toNat)
    case atStart => exact ⟨0, by omega, rfl, Below.refl _ _⟩
    case round =>
      obtain ⟨k, hk, rfl, hB⟩ := hrel
      have r1 := keep hB q1
      have r2 := keep hB q2
      have r4 := keep hB q4
      have u1 := lt_of_obj r1
      have u2 := lt_of_obj r2
      have u4 := lt_of_obj r4
      have HB := Lib.hid hB
      clear hB
      by_cases hlt : k < 8
      · have hk8 : (k : Int) < 8 := by omega
        have hw := mix_word lo ln mask k hlt
        have HW := Lib.hid hw
        clear hw
        cases he : (wd (mix lo ln mask) k != wd lo k)
        · go_wp2_with fail
          refine wp_region_more (by kernel_rfl) (by kernel_rfl) ?_
          repeat (go_big_quiet_step (fail))
          refine wpQuiet_nil ?_
          intro _ hw'
          obtain ⟨y, hw''⟩ := hw'
          subst hw''
          go_wp2_with fail
          go_roundw
          case rel => exact ⟨k + 1, by omega, by go_num, HB.out.trans ((more_below wr y).mono HB.out.size)⟩
          case measure => simp [intOf]; omega
        · have he2 : (wd (mix lo ln mask) k != wd ln k) = false := by
            rcases HW.out with h | h
            · rw [h] at he; simp at he
            · simp [h]
          go_wp2_with fail
          refine wp_region_more (by kernel_rfl) (by kernel_rfl) ?_
          repeat (go_big_quiet_step (fail))
          refine wpQuiet_nil ?_
          intro _ hw'
          obtain ⟨y, hw''⟩ := hw'
          subst hw''
          go_wp2_with fail
          go_roundw
          case rel => exact ⟨k + 1, by omega, by go_num, HB.out.trans ((more_below wr y).mono HB.out.size)⟩
          case measure => simp [intOf]; omega
      · obtain rfl : k = 8 := by omega
        clear hk hlt
        have e1 : decide (0 < msk lo ln (mix lo ln mask) 8) = true := by simpa using msk_mix_pos lo ln mask
        have e2 := mix_255 (mix lo ln mask) ln hn
        have e3 := mix_0 lo ln ho
        have e4 := mix_again lo ln mask
        have c1 : ∀ w, Calls Try.prog 14 #[.agg (cs lo), .agg (cs ln), .agg (cs (mix lo ln mask))] w fun e w' => e = .returned (.bool true) ∧ Below w.heap.size w w' := fun w => by
          rw [← e1]; exact could_any _ _ _ _ ho hn (mix_len ..)
        have c2 : ∀ w, Calls Try.prog 12 #[.agg (cs (mix lo ln mask)), .agg (cs ln), .int .i64 255] w fun e w' => e = .returned (.agg (cs ln)) ∧ Below w.heap.size w w' := fun w => by
          have := mix_any (mix lo ln mask) ln 255 w (mix_len ..) hn
          rwa [e2] at this
        have c3 : ∀ w, Calls Try.prog 12 #[.agg (cs lo), .agg (cs ln), .int .i64 0] w fun e w' => e = .returned (.agg (cs lo)) ∧ Below w.heap.size w w' := fun w => by
          have := mix_any lo ln 0 w ho hn
          rwa [e3] at this
        have c4 : ∀ w, Calls Try.prog 12 #[.agg (cs (mix lo ln mask)), .agg (cs ln), .int .i64 mask] w fun e w' => e = .returned (.agg (cs (mix lo ln mask))) ∧ Below w.heap.size w w' := fun w => by
          have := mix_any (mix lo ln mask) ln mask w (mix_len ..) hn
          rwa [e4] at this
        have C1 := Lib.hid c1
        have C2 := Lib.hid c2
        have C3 := Lib.hid c3
        have C4 := Lib.hid c4
        clear c1 c2 c3 c4 e1 e2 e3 e4
        go_wp2_with fail
        refine wp_region_more (by kernel_rfl) (by kernel_rfl) ?_
        repeat (go_big_quiet_step ((first | (go_at_call 14; exact more_call (C1.out _)) | (go_at_call_of 12 (255 : Int); exact more_call (C2.out _)) | (go_at_call_of 12 (0 : Int); exact more_call (C3.out _)) | (go_at_call 12; exact more_call (C4.out _)) | (go_at_call 16; exact more_call (awake4 _)))))
        refine wpQuiet_nil ?_
        intro _ hw'
        obtain ⟨y, hw''⟩ := hw'
        subst hw''
        go_wp2_with fail
        go_ret
        exact ⟨rfl, (H2.out.trans (HB.out.mono H2.out.size)).trans ((more_below wr y).mono (Nat.le_trans H2.out.size HB.out.size))⟩
end Go.Proofs.Ytommjfmglfjgjaa
