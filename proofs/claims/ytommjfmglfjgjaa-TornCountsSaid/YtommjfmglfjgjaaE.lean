/- The law TornCounts of darninglaw4 answers true: the walk. -/
import Derived.Test.YtommjfmglfjgjaaC
import Derived.Deep.RegionWith
namespace Go.Proofs.Ytommjfmglfjgjaa
open Go.ChangeShapes Go.WideShapes Go.RowKit

theorem more_alloc2 (w : World) (a b : Obj) : Below w.heap.size w ((w.alloc a).alloc b) := ((Below.refl _ _).alloc (Nat.le_refl _) _).alloc (by simp) _

theorem shl1 (D : Nat) : RowKit.wrap64 (2 ^ (8 - D)) = 2 ^ (8 - D) := by
  have : 8 - D = 0 ∨ 8 - D = 1 ∨ 8 - D = 2 ∨ 8 - D = 3 ∨ 8 - D = 4 ∨ 8 - D = 5 ∨ 8 - D = 6 ∨ 8 - D = 7 ∨ 8 - D = 8 := by omega
  rcases this with h | h | h | h | h | h | h | h | h <;> rw [h] <;> exact IntWalk.wrap64_in _ (by constructor <;> decide)

set_option maxHeartbeats 400000 in
theorem counts_walk (lo ln : List Int) (mask : Int) (w : World) (ho : lo.length = 8) (hn : ln.length = 8) (_ : (Lit.int .i64 mask).wf = true) :
    Calls Try.prog 5 #[.agg (cs lo), .agg (cs ln), .int .i64 mask] w fun e w' => e = .returned (.bool true) ∧ Below w.heap.size w w' := by
  go_enter Try.func5, Try.ntmps5
  go_wp2_with fail
  have q1 := keepA (.cells (cs ln) 24) (newA w (.cells (cs lo) 24))
  have q2 := newA (w.alloc (.cells (cs lo) 24)) (.cells (cs ln) 24)
  have b1 : Below w.heap.size w ((w.alloc (.cells (cs lo) 24)).alloc (.cells (cs ln) 24)) := ((Below.refl _ _).alloc (Nat.le_refl _) _).alloc (by simp) _
  have H1 := Lib.hid b1
  clear b1
  simp only [World.size_alloc] at q2
  generalize (w.alloc (.cells (cs lo) 24)).alloc (.cells (cs ln) 24) = w1 at q1 q2 H1 ⊢
  have t1 := lt_of_obj q1
  have t2 := lt_of_obj q2
  go_loopw [7, 11] (fun c i wr => ∃ k : Nat, k ≤ 8 ∧ i = .int .i64 k ∧ c = .int .i64 (diffs lo ln k : Nat) ∧ Below w1.heap.size w1 wr) (fun _ i _ => 8 - (intOf i).toNat)
  case atStart => exact ⟨0, by omega, rfl, rfl, Below.refl _ _⟩
  case round =>
    obtain ⟨k, hk, rfl, rfl, hB⟩ := hrel
    have r1 := keep hB q1
    have r2 := keep hB q2
    have u1 := lt_of_obj r1
    have u2 := lt_of_obj r2
    have HB := Lib.hid hB
    clear hB
    by_cases hlt : k < 8
    · have hk8 : (k : Int) < 8 := by omega
      have hd := diffs_le lo ln k
      have hds := diffs_succ lo ln k
      have HS := Lib.hid hds
      clear hds
      cases he : (wd lo k != wd ln k)
      all_goals
        go_wp2_with fail
        refine wp_region_more (by kernel_rfl) (by kernel_rfl) ?_
        repeat (go_big_quiet_step (fail))
        refine wpQuiet_nil ?_
        intro _ hw'
        obtain ⟨y, hw''⟩ := hw'
        subst hw''
        go_wp2_with fail
        go_roundw
        case rel =>
          refine ⟨k + 1, by omega, by go_num, ?_, HB.out.trans ((more_below wr y).mono HB.out.size)⟩
          rw [HS.out]
          simp at he
          simp [he]
        case measure => simp [intOf]; omega
    · obtain rfl : k = 8 := by omega
      clear hk hlt
      have hd := diffs_le lo ln 8
      have hmm := msk_mix lo ln (mix lo ln mask) 8 (fun i hi => mix_word lo ln mask i hi)
      generalize diffs lo ln 8 = D at hd hmm ⊢
      have hS : RowKit.wrap64 (2 ^ (8 - D)) = msk lo ln (mix lo ln mask) 8 := by rw [shl1, hmm]
      have hd' : (D : Int) ≤ 8 := by omega
      have hd2 : 0 ≤ 8 - (D : Int) := by omega
      have hd3 : 8 - (D : Int) ≤ 8 := by omega
      clear hmm
      next =>
        go_wp2_with fail
        refine (mix_any lo ln mask _ ho hn).mono ?_
        rintro e w2 ⟨rfl, hb⟩
        have v1 := keep hb r1
        have v2 := keep hb r2
        have b2 : Below w.heap.size w w2 := (H1.out.trans (HB.out.mono H1.out.size)).trans (hb.mono (by have := HB.out.size; have := H1.out.size; omega))
        have H2 := Lib.hid b2
        clear hb b2 HB H1
        have v1' := lt_of_obj v1
        have v2' := lt_of_obj v2
        cases c1 : (wd ((mix lo ln mask).set 0 (bits BinOp.xor IntKind.u64 (bits BinOp.xor IntKind.u64 (wd lo 0) (wd ln 0)) 21845)) 0 == wd lo 0)
        · cases c2 : (wd ((mix lo ln mask).set 0 (bits BinOp.xor IntKind.u64 (bits BinOp.xor IntKind.u64 (wd lo 0) (wd ln 0)) 21845)) 0 == wd ln 0)
          · have cz : msk lo ln ((mix lo ln mask).set 0 (bits BinOp.xor IntKind.u64 (bits BinOp.xor IntKind.u64 (wd lo 0) (wd ln 0)) 21845)) 8 = 0 := msk_bad _ _ _ 0 8 (by omega) (by simpa using c1) (by simpa using c2)
            have ly : ((mix lo ln mask).set 0 (bits BinOp.xor IntKind.u64 (bits BinOp.xor IntKind.u64 (wd lo 0) (wd ln 0)) 21845)).length = 8 := by simp [mix_len]
            have k1 : ∀ w, Calls Try.prog 15 #[.agg (cs lo), .agg (cs ln), .agg (cs (mix lo ln mask))] w fun e w' => e = .returned (.int .i64 (msk lo ln (mix lo ln mask) 8)) ∧ Below w.heap.size w w' := fun w => by
              have := masks_any lo ln (mix lo ln mask) w ho hn (mix_len ..)
              exact this
            have k2 : ∀ w, Calls Try.prog 15 #[.agg (cs lo), .agg (cs ln), .agg (cs ((mix lo ln mask).set 0 (bits BinOp.xor IntKind.u64 (bits BinOp.xor IntKind.u64 (wd lo 0) (wd ln 0)) 21845)))] w fun e w' => e = .returned (.int .i64 0) ∧ Below w.heap.size w w' := fun w => by
              have := masks_any lo ln ((mix lo ln mask).set 0 (bits BinOp.xor IntKind.u64 (bits BinOp.xor IntKind.u64 (wd lo 0) (wd ln 0)) 21845)) w ho hn ly
              rwa [cz] at this
            have k3 : ∀ w, Calls Try.prog 14 #[.agg (cs lo), .agg (cs ln), .agg (cs ((mix lo ln mask).set 0 (bits BinOp.xor IntKind.u64 (bits BinOp.xor IntKind.u64 (wd lo 0) (wd ln 0)) 21845)))] w fun e w' => e = .returned (.bool false) ∧ Below w.heap.size w w' := fun w => by
              have := could_any lo ln ((mix lo ln mask).set 0 (bits BinOp.xor IntKind.u64 (bits BinOp.xor IntKind.u64 (wd lo 0) (wd ln 0)) 21845)) w ho hn ly
              rwa [cz] at this
            have k4 : ∀ w, Calls Try.prog 11 #[.agg (cs lo), .agg (cs ln), .agg (cs lo)] w fun e w' => e = .returned (.int .i64 (msk lo ln ln 8)) ∧ Below w.heap.size w w' := fun w => by
              have := masks4_any lo ln lo w ho hn ho
              rwa [msk_old] at this
            have K1 := Lib.hid k1
            have K2 := Lib.hid k2
            have K3 := Lib.hid k3
            have K4 := Lib.hid k4
            clear k1 k2 k3 k4 cz
            go_wp2_with fail
            have x1 := keepA (.cells (cs ((mix lo ln mask).set 0 (bits BinOp.xor IntKind.u64 (bits BinOp.xor IntKind.u64 (wd lo 0) (wd ln 0)) 21845))) 24) (keepA (.cells (cs (mix lo ln mask)) 24) v1)
            have x2 := keepA (.cells (cs ((mix lo ln mask).set 0 (bits BinOp.xor IntKind.u64 (bits BinOp.xor IntKind.u64 (wd lo 0) (wd ln 0)) 21845))) 24) (keepA (.cells (cs (mix lo ln mask)) 24) v2)
            have x3 := keepA (.cells (cs ((mix lo ln mask).set 0 (bits BinOp.xor IntKind.u64 (bits BinOp.xor IntKind.u64 (wd lo 0) (wd ln 0)) 21845))) 24) (newA w2 (.cells (cs (mix lo ln mask)) 24))
            have x4 := newA (w2.alloc (.cells (cs (mix lo ln mask)) 24)) (.cells (cs ((mix lo ln mask).set 0 (bits BinOp.xor IntKind.u64 (bits BinOp.xor IntKind.u64 (wd lo 0) (wd ln 0)) 21845))) 24)
            have b3 := H2.out.trans ((more_alloc2 w2 (.cells (cs (mix lo ln mask)) 24) (.cells (cs ((mix lo ln mask).set 0 (bits BinOp.xor IntKind.u64 (bits BinOp.xor IntKind.u64 (wd lo 0) (wd ln 0)) 21845))) 24)).mono H2.out.size)
            have H3 := Lib.hid b3
            clear b3
            simp only [World.size_alloc] at x4
            generalize (w2.alloc (.cells (cs (mix lo ln mask)) 24)).alloc (.cells (cs ((mix lo ln mask).set 0 (bits BinOp.xor IntKind.u64 (bits BinOp.xor IntKind.u64 (wd lo 0) (wd ln 0)) 21845))) 24) = w3 at x1 x2 x3 x4 H3 ⊢
            have y1 := lt_of_obj x1
            have y2 := lt_of_obj x2
            have y3 := lt_of_obj x3
            have y4 := lt_of_obj x4
            refine wp_region_more (by kernel_rfl) (by kernel_rfl) ?_
            repeat (go_big_quiet_step ((first | (go_at_call_of 15 (cs (mix lo ln mask)); exact more_call (K1.out _)) | (go_at_call_of 15 (cs ((mix lo ln mask).set 0 (bits BinOp.xor IntKind.u64 (bits BinOp.xor IntKind.u64 (wd lo 0) (wd ln 0)) 21845))); exact more_call (K2.out _)) | (go_at_call 15; exact more_call (masks_any lo ln ln _ ho hn hn)) | (go_at_call 14; exact more_call (K3.out _)) | (go_at_call 11; exact more_call (K4.out _)) | (go_at_call 16; exact more_call (awake4 _)))))
            refine wpQuiet_nil ?_
            intro _ hw'
            obtain ⟨y, hw''⟩ := hw'
            subst hw''
            go_wp2_with fail
            go_ret
            exact ⟨rfl, H3.out.trans ((more_below w3 y).mono H3.out.size)⟩
          · go_wp2_with fail
            refine (masks_any lo ln (mix lo ln mask) _ ho hn (mix_len ..)).mono ?_
            rintro e w3 ⟨rfl, hb⟩
            have b3 : Below w.heap.size w w3 := (H2.out.trans ((more_alloc2 ..).mono H2.out.size)).trans (hb.mono (by have := H2.out.size; simp; omega))
            have H3 := Lib.hid b3
            clear hb b3
            go_wp2_with fail
            refine (awake4 _).mono ?_
            rintro e w4 ⟨rfl, hb⟩
            have b4 := H3.out.trans (hb.mono H3.out.size)
            have H4 := Lib.hid b4
            clear hb b4
            go_wp2_with fail
            go_ret
            exact ⟨rfl, H4.out⟩
        · go_wp2_with fail
          refine (masks_any lo ln (mix lo ln mask) _ ho hn (mix_len ..)).mono ?_
          rintro e w3 ⟨rfl, hb⟩
          have b3 : Below w.heap.size w w3 := (H2.out.trans ((more_alloc2 ..).mono H2.out.size)).trans (hb.mono (by have := H2.out.size; simp; omega))
          have H3 := Lib.hid b3
          clear hb b3
          go_wp2_with fail
          refine (awake4 _).mono ?_
          rintro e w4 ⟨rfl, hb⟩
          have b4 := H3.out.trans (hb.mono H3.out.size)
          have H4 := Lib.hid b4
          clear hb b4
          go_wp2_with fail
          go_ret
          exact ⟨rfl, H4.out⟩
end Go.Proofs.Ytommjfmglfjgjaa
