/- The walk of MeanEdges. -/
import Derived.Test.YtfhcgnkjncfeiaaMc
import Derived.OwnWalk
namespace Go.Proofs.Ytfhcgnkjncfeiaa
open Go.ChangeShapes Go.WideShapes Go.RowKit Fl

theorem info3 : (Try.prog.info? 3).map (fun i => (i.zero, i.size, i.bytes)) = some (some (.int .i64 0), 1, 8) := by kernel_rfl
/-- a row of noughts as make makes it -/
theorem make_noughts (n : Nat) (w : World) (hn : n ≤ 1000000) : ∃ w', (Instr.makeSlice 22 (.int .i64 (n : Int)) (.int .i64 (n : Int))).run Try.prog w = .ok (.slice (some ⟨w.heap.size, 0, none⟩) n n) w' ∧
    IntsAt w' w.heap.size 0 n (fun _ => 0) ∧ Below w.heap.size w w' := by
  obtain ⟨i0, hi0, hz0, hz1, hz2⟩ := info_parts info3
  obtain ⟨w', h1, h2, h3⟩ := run_make_full (P := Try.prog) w w.heap.size 22 3 i0 _ 1 Try.underlying22 hi0 hz0 hz1 .i64 .i64 n (by rw [hz2]; omega) (by unfold maxLen; omega) (Nat.le_refl _)
  refine ⟨w', h1, fun j hj => ?_, (Below.refl _ _).grown h3 (Nat.le_refl _) (fun _ h => by cases h)⟩
  have hc := h2.cells (g := w.heap.size) rfl j (.int .i64 0) (by
    have e : (Value.int .i64 0).cells = #[.int .i64 0] := rfl
    rw [e, toList_madeCells_one, List.getElem?_replicate, if_pos (by omega)])
  rw [addr_add, cell?_heap] at hc
  exact hc
theorem hs_zero (n : Nat) : hs (fun _ => 0) n = 0 := by
  induction n with
  | zero => rfl
  | succ n ih => simp only [hs, ih]; decide
theorem hq_zero (n : Nat) : hq (fun _ => 0) n = 0 := by
  induction n with
  | zero => rfl
  | succ n ih => simp only [hq, ih]; decide
theorem quoW_zero (b : Int) (hb : 1 ≤ b ∧ b ≤ 9007199254740992) : quoW 0 b = 0 := by
  obtain ⟨ra, q, h1, _, _, h4, _, _, h7⟩ := quoW_rnd 0 b (by decide) hb
  have e1 : ra = 0 := h1.exact (by decide) (by rw [val_zero]; simp)
  rw [e1, val_zero, Nat.zero_mul] at h4
  have hp : 0 < b.natAbs * U := Nat.mul_pos (by omega) U_pos
  rw [h7]
  exact h4.exact hp (by rw [val_zero, Nat.zero_mul])
theorem okN_true {n : Nat} (h : 1 ≤ n ∧ n ≤ 200) : okN n = true := by unfold okN; simp [h]
theorem mean_noughts (n : Nat) (h : 1 ≤ n ∧ n ≤ 200) : meanF (fun _ => 0) n = 0 := by
  unfold meanF; rw [if_pos (okN_true h), hs_zero]; exact quoW_zero n (by omega)
theorem var_noughts (n : Nat) (h : 1 ≤ n ∧ n ≤ 200) : varF (fun _ => 0) n = 0 := by
  have e : vN (fun _ => 0) n = 0 := by unfold vN; rw [hs_zero, hq_zero]; simp
  unfold varF; rw [if_pos (okN_true h), e]; exact quoW_zero (n * n) (by have := nn_bd n h; omega)
theorem uneven_noughts (n : Nat) (h : 1 ≤ n ∧ n ≤ 200) : unevenF (fun _ => 0) n = NANW := by
  unfold unevenF
  rw [if_pos (okN_true h), mean_noughts n h]
  have : ∀ x, quot x 0 = none := fun x => by unfold quot; rw [if_pos (by decide)]
  rw [this]
theorem none_noughts (f : Nat → Int) (n : Nat) (h : okN n = false) : meanF f n = NANW ∧ varF f n = NANW ∧ unevenF f n = NANW := by
  unfold meanF varF unevenF; rw [h]; exact ⟨rfl, rfl, rfl⟩
theorem heldI_in {x : Int} (h : 0 ≤ x ∧ x ≤ 1000000) : heldI x = x := by unfold heldI; omega
theorem flInt_zero : flInt 0 = 0 := by decide
theorem flInt_rg (b : Int) (hb : 1 ≤ b ∧ b ≤ 9007199254740992) : rg (flInt b) < INF ∧ 0 < rg (flInt b) := by
  obtain ⟨r, h1, h2, h3⟩ := flInt_word b (by omega)
  obtain ⟨_, _, _, h4⟩ := word_fine (decide (b < 0)) (Nat.le_of_lt h1)
  rw [h3, h4]
  refine ⟨h1, ?_⟩
  rcases Nat.eq_zero_or_pos r with h | h
  · rw [h, val_zero] at h2
    have := Nat.mul_pos (by omega : 0 < b.natAbs) U_pos
    omega
  · exact h
theorem ratio_in (a b : Int) (ha : 0 ≤ a ∧ a ≤ 1000000) (hb : 1 ≤ b ∧ b ≤ 1000000) : ratioF a b = quoW a b := by
  unfold ratioF
  rw [heldI_in ha, heldI_in (by omega)]
  have h1 := flInt_rg b (by omega)
  have h2 := quoW_some a b (by omega) (by omega)
  have h3 := (quoW_fine a b (by omega) (by omega)).2.2.2.2.2
  have : quot (flInt a) (flInt b) = some (quoW a b) := by
    unfold quot
    rw [if_neg (by omega), h2]
    simp [h3]
  rw [this]
theorem ratio_whole (b : Int) (hb : 1 ≤ b ∧ b ≤ 1000000) : ratioF b b = 4607182418800017408 := by
  rw [ratio_in b b (by omega) hb]
  unfold quoW
  rw [fdiv_self (flInt_rg b (by omega)).1 (flInt_rg b (by omega)).2]
  rfl
theorem ratio_inf (p : Int) (hp : 1 ≤ p ∧ p ≤ 1000000) : ratioF p 0 = 9218868437227405312 := by
  unfold ratioF
  have e : heldI 0 = 0 := by decide
  rw [heldI_in (by omega), e, flInt_zero]
  have : ∀ x, quot x 0 = none := fun x => by unfold quot; rw [if_pos (by decide)]
  rw [this]
  dsimp only
  rw [if_neg (by omega)]

set_option maxHeartbeats 3200000 in
theorem meanEdges_walk (a b : Int) (w : World) (_ : (Lit.int .i64 a).wf = true) (_ : (Lit.int .i64 b).wf = true) :
    Calls Try.prog 4 #[.int .i64 a, .int .i64 b] w fun e w' => e = .returned (.bool true) ∧ Below w.heap.size w w' := by
  have hm0 : 0 ≤ IntKind.u64.wrap a := by rw [IntKind.wrap_u64]; omega
  have hp0 : 0 ≤ IntKind.u64.wrap b := by rw [IntKind.wrap_u64]; omega
  obtain ⟨n, hn⟩ : ∃ n : Nat, (IntKind.u64.wrap a).tmod 250 = (n : Int) := ⟨((IntKind.u64.wrap a).tmod 250).toNat, by have := Int.tmod_nonneg 250 hm0; omega⟩
  have hnb : n < 250 := by have := Int.tmod_lt_of_pos (IntKind.u64.wrap a) (by decide : (0 : Int) < 250); omega
  obtain ⟨q, hq⟩ : ∃ q, (IntKind.u64.wrap b).tmod 1000000 = q := ⟨_, rfl⟩
  have hqb : 0 ≤ q ∧ q < 1000000 := by
    rw [← hq]; exact ⟨Int.tmod_nonneg _ hp0, Int.tmod_lt_of_pos _ (by decide)⟩
  obtain ⟨p, hp⟩ : ∃ p, 1 + q = p := ⟨_, rfl⟩
  have hpb : 1 ≤ p ∧ p ≤ 1000000 := by omega
  have hw1 : wrap64 (n : Int) = n := by unfold wrap64; omega
  have hw2 : wrap64 q = q := by unfold wrap64; omega
  have hw3 : wrap64 p = p := by unfold wrap64; omega
  obtain ⟨w1, hrun, hrow, hbel⟩ := make_noughts n w (by omega)
  have M1 := Lib.hid (mean_any (fun _ => 0) w.heap.size 0 n n w1 hrow (Nat.le_refl _) (by omega))
  have M2 := Lib.hid (var_any (fun _ => 0) w.heap.size 0 n n w1 hrow (Nat.le_refl _) (by omega))
  have M3 := Lib.hid (uneven_any (fun _ => 0) w.heap.size 0 n n w1 hrow (Nat.le_refl _) (by omega))
  have HB := Lib.hid hbel
  have f1 : feq NANW NANW = false := by decide
  have f2 : feq 0 0 = true := by decide
  have f3 : feq 4607182418800017408 4607182418800017408 = true := by decide
  have f4 : flt 9218868437227405311 9218868437227405312 = true := by decide
  have R1 := Lib.hid (ratio_inf p hpb)
  have R2 := Lib.hid (ratio_whole p hpb)
  have R3 : Hid (ratioF 0 p = 0) := Lib.hid ((ratio_in 0 p (by decide) hpb).trans (quoW_zero p (by omega)))
  have R4 : Hid (ratioF 0 0 = NANW) := Lib.hid (by kernel_rfl)
  clear hrow hbel hqb hpb hm0 hp0
  by_cases hok : 1 ≤ n ∧ n ≤ 200
  · have e1 := Lib.hid (mean_noughts n hok)
    have e2 := Lib.hid (var_noughts n hok)
    have e3 := Lib.hid (uneven_noughts n hok)
    have d1 : ¬ (n : Int) = 0 := by omega
    have d1' : ¬ n = 0 := by omega
    have d2 : decide (200 < (n : Int)) = false := decide_eq_false (by omega)
    clear hok hnb
    go_enter Try.func4, Try.ntmps4
    go_wp2_with fail
    refine M1.out.mono ?_
    rintro _ _ ⟨rfl, rfl⟩
    rw [e1.out]
    go_wp2_with fail
    refine M2.out.mono ?_
    rintro _ _ ⟨rfl, rfl⟩
    rw [e2.out]
    go_wp2_with fail
    refine M3.out.mono ?_
    rintro _ _ ⟨rfl, m, rfl⟩
    rw [e3.out]
    go_wp2_with fail
    refine (ratio_any _ _ _).mono ?_
    rintro _ _ ⟨rfl, m1, rfl⟩
    rw [R4.out]
    go_wp2_with fail
    refine (ratio_any _ _ _).mono ?_
    rintro _ _ ⟨rfl, m2, rfl⟩
    rw [R1.out]
    go_wp2_with fail
    refine (isInf1_any _ _).mono ?_
    rintro _ _ ⟨rfl, rfl⟩
    rw [f4]
    go_wp2_with fail
    refine (ratio_any _ _ _).mono ?_
    rintro _ _ ⟨rfl, m3, rfl⟩
    rw [R2.out]
    go_wp2_with fail
    refine (ratio_any _ _ _).mono ?_
    rintro _ _ ⟨rfl, m4, rfl⟩
    rw [R3.out]
    go_wp2_with fail
    refine (awake2_any _).mono ?_
    rintro _ w2 ⟨rfl, hb⟩
    go_wp2
    go_ret
    exact ⟨rfl, HB.out.trans (Below.mono (show Below w1.heap.size w1 w2 from ⟨hb.os, hb.tape, hb.output, hb.size, hb.block⟩) HB.out.size)⟩
  · have hok' : okN n = false := by
      unfold okN
      cases h : (decide (1 ≤ n) && decide (n ≤ 200)) with
      | false => rfl
      | true => simp at h; exact absurd h hok
    obtain ⟨e1, e2, e3⟩ := none_noughts (fun _ => 0) n hok'
    have e1 := Lib.hid e1
    have e2 := Lib.hid e2
    have e3 := Lib.hid e3
    have hcase : n = 0 ∨ 200 < n := by omega
    clear hok' hnb hok
    rcases hcase with rfl | h2
    · simp only [Int.natCast_zero] at hn hw1 hrun
      go_enter Try.func4, Try.ntmps4
      go_wp2_with fail
      refine M1.out.mono ?_
      rintro _ _ ⟨rfl, rfl⟩
      rw [e1.out]
      go_wp2_with fail
      refine M2.out.mono ?_
      rintro _ _ ⟨rfl, rfl⟩
      rw [e2.out]
      go_wp2_with fail
      refine M3.out.mono ?_
      rintro _ _ ⟨rfl, m, rfl⟩
      rw [e3.out]
      go_wp2_with fail
      refine (awake2_any _).mono ?_
      rintro _ w2 ⟨rfl, hb⟩
      go_wp2
      go_ret
      exact ⟨rfl, HB.out.trans (Below.mono (show Below w1.heap.size w1 w2 from ⟨hb.os, hb.tape, hb.output, hb.size, hb.block⟩) HB.out.size)⟩
    · have d1 : ¬ (n : Int) = 0 := by omega
      have d1' : ¬ n = 0 := by omega
      have d2 : decide (200 < (n : Int)) = true := decide_eq_true (by omega)
      clear h2
      go_enter Try.func4, Try.ntmps4
      go_wp2_with fail
      refine M1.out.mono ?_
      rintro _ _ ⟨rfl, rfl⟩
      rw [e1.out]
      go_wp2_with fail
      refine M2.out.mono ?_
      rintro _ _ ⟨rfl, rfl⟩
      rw [e2.out]
      go_wp2_with fail
      refine M3.out.mono ?_
      rintro _ _ ⟨rfl, m, rfl⟩
      rw [e3.out]
      go_wp2_with fail
      refine (awake2_any _).mono ?_
      rintro _ w2 ⟨rfl, hb⟩
      go_wp2
      go_ret
      exact ⟨rfl, HB.out.trans (Below.mono (show Below w1.heap.size w1 w2 from ⟨hb.os, hb.tape, hb.output, hb.size, hb.block⟩) HB.out.size)⟩
end Go.Proofs.Ytfhcgnkjncfeiaa
