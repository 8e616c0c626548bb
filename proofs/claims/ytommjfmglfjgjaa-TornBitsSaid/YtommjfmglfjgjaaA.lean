/- Contracts of the mixing functions: torn.Mix, darningref4.Mix, torn.Masks, torn.Could, darningref4.Masks. -/
import Derived.Test.YtommjfmglfjgjaaB
namespace Go.Proofs.Ytommjfmglfjgjaa
open Go.ChangeShapes Go.WideShapes Go.RowKit

theorem below3 (w : World) (a b c : Obj) : Below w.heap.size w (((w.alloc a).alloc b).alloc c) :=
  (((Below.refl _ _).alloc (Nat.le_refl _) _).alloc (by simp) _).alloc (by simp; omega) _

set_option maxHeartbeats 400000 in
theorem mix_any (lo ln : List Int) (mask : Int) (w : World) (ho : lo.length = 8) (hn : ln.length = 8) :
    Calls Try.prog 12 #[.agg (cs lo), .agg (cs ln), .int .i64 mask] w fun e w' => e = .returned (.agg (cs (mix lo ln mask))) ∧ Below w.heap.size w w' := by
  go_enter Try.func12, Try.ntmps12
  go_wp2
  go_loopw [10] (fun i wr => ∃ k : Nat, k ≤ 8 ∧ i = .int .i64 k ∧ wr = ((w.alloc (.cells (cs (mixTo lo ln mask k)) 24)).alloc (.cells (cs ln) 24)).alloc (.cells z8 24)) (fun i _ => 8 - (intOf i).toNat)
  case atStart => exact ⟨0, by omega, rfl, by rw [mixTo_zero lo ln mask ho]; rfl⟩
  case round =>
    obtain ⟨k, hk, rfl, rfl⟩ := hrel
    by_cases hlt : k < 8
    · go_wp2
      · have hb : bitOf mask k = true := by assumption
        go_roundw
        case rel => exact ⟨k + 1, by omega, by go_num, by rw [mixTo_set lo ln mask k hlt hb]⟩
        case measure => simp [intOf]; omega
      · have hb : bitOf mask k = false := by assumption
        go_roundw
        case rel => exact ⟨k + 1, by omega, by go_num, by rw [mixTo_keep lo ln mask k hb]⟩
        case measure => simp [intOf]; omega
    · obtain rfl : k = 8 := by omega
      go_wp2
      refine ret_row rfl rfl (Try.isAgg24 _) (Try.sizeOf24 _) (c := cs (mix lo ln mask)) ?_ rfl ⟨rfl, below3 ..⟩
      simp [go_sem, mix]

set_option maxHeartbeats 400000 in
theorem mix4_any (lo ln : List Int) (mask : Int) (w : World) (ho : lo.length = 8) (hn : ln.length = 8) :
    Calls Try.prog 13 #[.agg (cs lo), .agg (cs ln), .int .i64 mask] w fun e w' => e = .returned (.agg (cs (mix lo ln mask))) ∧ Below w.heap.size w w' := by
  go_enter Try.func13, Try.ntmps13
  go_wp2
  go_loopw [8] (fun i wr => ∃ k : Nat, k ≤ 8 ∧ i = .int .i64 k ∧ wr = ((w.alloc (.cells (cs lo) 24)).alloc (.cells (cs (mixFrom lo ln mask k)) 24)).alloc (.cells z8 24)) (fun i _ => 8 - (intOf i).toNat)
  case atStart => exact ⟨0, by omega, rfl, by rw [mixFrom_zero lo ln mask hn]; rfl⟩
  case round =>
    obtain ⟨k, hk, rfl, rfl⟩ := hrel
    by_cases hlt : k < 8
    · go_wp2
      · have hb : (mask / 2 ^ k % 2 == 0) = true := by assumption
        rw [bit_test] at hb
        have hb : bitOf mask k = false := by simpa using hb
        go_roundw
        case rel => exact ⟨k + 1, by omega, by go_num, by rw [mixFrom_set lo ln mask k hlt hb]⟩
        case measure => simp [intOf]; omega
      · have hb : (mask / 2 ^ k % 2 == 0) = false := by assumption
        rw [bit_test] at hb
        have hb : bitOf mask k = true := by simpa using hb
        go_roundw
        case rel => exact ⟨k + 1, by omega, by go_num, by rw [mixFrom_keep lo ln mask k hb]⟩
        case measure => simp [intOf]; omega
    · obtain rfl : k = 8 := by omega
      go_wp2
      refine ret_row rfl rfl (Try.isAgg24 _) (Try.sizeOf24 _) (c := cs (mix lo ln mask)) ?_ rfl ⟨rfl, below3 ..⟩
      simp [go_sem, mixFrom_all, mix]

set_option maxHeartbeats 400000 in
theorem masks_any (lo ln li : List Int) (w : World) (ho : lo.length = 8) (hn : ln.length = 8) (hl : li.length = 8) :
    Calls Try.prog 15 #[.agg (cs lo), .agg (cs ln), .agg (cs li)] w fun e w' => e = .returned (.int .i64 (msk lo ln li 8)) ∧ Below w.heap.size w w' := by
  go_enter Try.func15, Try.ntmps15
  go_wp2
  go_loop [7, 11] (fun n i => ∃ k : Nat, k ≤ 8 ∧ i = .int .i64 k ∧ n = .int .i64 (msk lo ln li k)) (fun _ i => 8 - (intOf i).toNat)
  case atStart => exact ⟨0, by omega, rfl, rfl⟩
  case round =>
    obtain ⟨k, hk, rfl, rfl⟩ := hrel
    by_cases hlt : k < 8
    · have hbd := msk_bd lo ln li k
      have hp : (2 : Int) ^ k ≤ 128 := by
        have : (2 : Int) ^ k ≤ 2 ^ 7 := by
          have := Nat.pow_le_pow_right (n := 2) (by decide) (by omega : k ≤ 7)
          exact_mod_cast this
        simpa using this
      have hb1 := hbd.1
      have hb2 : msk lo ln li k ≤ 128 := by omega
      clear hbd hp
      have hm : msk lo ln li (k + 1) = msk lo ln li k * ways lo ln li k := rfl
      have HM := Lib.hid hm
      clear hm
      go_wp2
      · have h1 : wd li k = wd lo k := by assumption
        have h2 : (wd lo k == wd ln k) = true := by assumption
        have e : ways lo ln li k = 2 := by unfold ways; rw [if_pos h1, if_pos (by rw [h1]; simpa using h2)]; rfl
        go_round
        case rel => exact ⟨k + 1, by omega, by go_num, by rw [HM.out, e]⟩
        case measure => simp [intOf]; omega
      · have h1 : wd li k = wd lo k := by assumption
        have h2 : (wd lo k == wd ln k) = false := by assumption
        have e : ways lo ln li k = 1 := by unfold ways; rw [if_pos h1, if_neg (by rw [h1]; simpa using h2)]; rfl
        go_round
        case rel => exact ⟨k + 1, by omega, by go_num, by rw [HM.out, e, Int.mul_one]⟩
        case measure => simp [intOf]; omega
      · have h2 : (wd li k != wd lo k) = true ∧ (wd li k != wd ln k) = true := by assumption
        have e : ways lo ln li k = 0 := by unfold ways; rw [if_neg (by simpa using h2.1), if_neg (by simpa using h2.2)]; rfl
        have e2 := msk_zero lo ln li k e 8 hlt
        go_ret
        exact ⟨by rw [e2]; rfl, below3 ..⟩
      · have h1 : ¬ wd li k = wd lo k := by assumption
        have h2 : (wd li k != wd lo k) = false ∨ (wd li k != wd ln k) = false := by assumption
        have e : ways lo ln li k = 1 := by unfold ways; rw [if_neg h1, if_pos (by simpa [h1] using h2)]; rfl
        go_round
        case rel => exact ⟨k + 1, by omega, by go_num, by rw [HM.out, e, Int.mul_one]⟩
        case measure => simp [intOf]; omega
    · obtain rfl : k = 8 := by omega
      go_wp2
      go_ret
      exact ⟨rfl, below3 ..⟩

set_option maxHeartbeats 400000 in
theorem could_any (lo ln li : List Int) (w : World) (ho : lo.length = 8) (hn : ln.length = 8) (hl : li.length = 8) :
    Calls Try.prog 14 #[.agg (cs lo), .agg (cs ln), .agg (cs li)] w fun e w' => e = .returned (.bool (decide (0 < msk lo ln li 8))) ∧ Below w.heap.size w w' := by
  go_enter Try.func14, Try.ntmps14
  go_wp2_with fail
  refine (masks_any lo ln li _ ho hn hl).mono ?_
  rintro e w' ⟨rfl, hb⟩
  have HB := Lib.hid hb
  clear hb
  go_wp2
  go_ret
  exact ⟨rfl, (below3 ..).trans (HB.out.mono (by simp; omega))⟩

set_option maxHeartbeats 400000 in
theorem masks4_any (lo ln li : List Int) (w : World) (ho : lo.length = 8) (hn : ln.length = 8) (hl : li.length = 8) :
    Calls Try.prog 11 #[.agg (cs lo), .agg (cs ln), .agg (cs li)] w fun e w' => e = .returned (.int .i64 (msk lo ln li 8)) ∧ Below w.heap.size w w' := by
  go_enter Try.func11, Try.ntmps11
  go_wp2
  obtain ⟨w1, hw1⟩ : ∃ w1, w1 = ((w.alloc (.cells (cs lo) 24)).alloc (.cells (cs ln) 24)).alloc (.cells (cs li) 24) := ⟨_, rfl⟩
  have o3 : obj w1 w.heap.size = some (.cells (cs lo) 24) := by rw [hw1]; simp [go_sem]
  have o4 : obj w1 (w.heap.size + 1) = some (.cells (cs ln) 24) := by rw [hw1]; simp [go_sem]
  have o5 : obj w1 (w.heap.size + 1 + 1) = some (.cells (cs li) 24) := by rw [hw1]; simp [go_sem]
  have z1 : w1.heap.size = w.heap.size + 3 := by rw [hw1]; simp
  have hb1 : Below w.heap.size w w1 := by rw [hw1]; exact below3 ..
  rw [← hw1]
  clear hw1
  have HB := Lib.hid hb1; clear hb1
  have HZ := Lib.hid z1; clear z1
  have s3 : w.heap.size < w1.heap.size := by rw [HZ.out]; omega
  have s4 : w.heap.size + 1 < w1.heap.size := by rw [HZ.out]; omega
  have s5 : w.heap.size + 1 + 1 < w1.heap.size := by rw [HZ.out]; omega
  go_loopw [7, 9] (fun n i wr => ∃ k : Nat, k ≤ 256 ∧ i = .int .i64 k ∧ n = .int .i64 (cnt (fun m => mix lo ln m == li) k) ∧ Below w1.heap.size w1 wr) (fun _ i _ => 256 - (intOf i).toNat)
  case atStart => exact ⟨0, by omega, rfl, rfl, Below.refl _ _⟩
  case round =>
    obtain ⟨k, hk, rfl, rfl, hB⟩ := hrel
    by_cases hlt : k < 256
    · have p3 := (obj_below hB s3).trans o3
      have p4 := (obj_below hB s4).trans o4
      have p5 := (obj_below hB s5).trans o5
      have t3 := Nat.lt_of_lt_of_le s3 hB.size
      have t4 := Nat.lt_of_lt_of_le s4 hB.size
      have t5 := Nat.lt_of_lt_of_le s5 hB.size
      have HB2 := Lib.hid hB; clear hB
      have hm : (k : Int) < 256 := by omega
      have hc := cnt_bd (fun m => mix lo ln m == li) k
      have hc1 := hc.1
      have hc2 : cnt (fun m => mix lo ln m == li) k ≤ 256 := by omega
      clear hc
      cases hb : (mix lo ln (k : Int) == li)
      all_goals
        go_wp2_with fail
        refine wp_region_more (by kernel_rfl) (by kernel_rfl) ?_
        repeat (go_big_quiet_step ((go_at_call 13; exact more_call (mix4_any _ _ _ _ ho hn))))
        refine wpQuiet_nil ?_
        intro _ hw'
        obtain ⟨y, hw''⟩ := hw'
        subst hw''
        go_wp2_with fail
        go_roundw
        case rel =>
          refine ⟨k + 1, by omega, by go_num, ?_, HB2.out.trans ((more_below wr y).mono HB2.out.size)⟩
          rw [cnt_succ, hb]; simp
        case measure => simp [intOf]; omega
    · obtain rfl : k = 256 := by omega
      clear hk hlt
      go_wp2_with fail
      go_ret
      exact ⟨congrArg (fun z => Ending.returned (Value.int .i64 z)) (masks_count lo ln li hl), HB.out.trans (hB.mono (by rw [HZ.out]; omega))⟩
end Go.Proofs.Ytommjfmglfjgjaa
