/- Contracts: slices.Clone, count.All, count.Page; a count as New makes it. -/
import Derived.Test.YtommjfmglfjgjaaO
import Derived.OwnWalk
import Derived.Lib.SliceRun
namespace Go.Proofs.Ytommjfmglfjgjaa
open Go.ChangeShapes Go.WideShapes Go.RowKit

theorem ints_len (l : List Int) : (ints l).length = l.length := by simp [ints]
theorem ints_get {n : Nat} {f : Nat → Int} (j : Nat) (u : Value) (h : (ints ((List.range n).map f))[j]? = some u) : j < n ∧ u = .int .i64 (f j) := by
  unfold ints at h
  rw [List.map_map, List.getElem?_map] at h
  by_cases hj : j < n
  · rw [List.getElem?_range hj] at h
    simp at h
    exact ⟨hj, h.symm⟩
  · rw [List.getElem?_eq_none (by simp; omega)] at h; cases h
theorem row_of_owns {w : World} {base : Nat} {v : Value} {l : List Int} {n : Nat} (h : w.ownsRow base 3 1 v n (ints l)) (hn : 0 < n) (hl : n = l.length) : ∃ g cap, v = .slice (some ⟨g, 0, none⟩) n cap ∧ base ≤ g ∧ RowIn w g n fun j => l.getD j 0 := by
  rcases h.2 with ⟨_, h0⟩ | ⟨g, cap, cur, rfl, hb, hg, _, _, _, ht⟩
  · omega
  · refine ⟨g, cap, rfl, hb, cur, hg, fun j hj => ?_⟩
    have h1 : (cur.toList.take (n * 1))[j]? = (ints l)[j]? := by rw [ht]
    rw [List.getElem?_take, if_pos (by omega)] at h1
    unfold nth
    rw [← Array.getElem?_toList, h1]
    unfold ints
    show _ = some (Value.int .i64 (l.getD j 0))
    rw [List.getElem?_map, List.getElem?_eq_getElem (by omega), List.getD_eq_getElem?_getD, List.getElem?_eq_getElem (by omega)]
    rfl
/-- a count as New makes it, of one page or more -/
theorem CountAt.countIn {w : World} {base C : Nat} {batch : Int} {l k : List Int} (h : CountAt w base C batch l k) (hl : 0 < l.length) (hk : k.length = l.length) :
    ∃ g1 g2 cap1 cap2, CountIn w base C g1 g2 batch l.length cap1 cap2 (fun j => l.getD j 0) (fun j => k.getD j 0) := by
  obtain ⟨s1, s2, hb, hC, r1, r2, ap, _⟩ := h
  obtain ⟨g1, cap1, rfl, b1, q1⟩ := row_of_owns r1 hl rfl
  rw [hk] at r2
  obtain ⟨g2, cap2, rfl, b2, q2⟩ := row_of_owns r2 hl hk.symm
  obtain ⟨a1, a2, a3⟩ := ap
  have a1' : some g1 ≠ some C := a1
  have a2' : some g2 ≠ some C := a2
  have a3' : some g1 = none ∨ some g1 ≠ some g2 := a3
  refine ⟨g1, g2, cap1, cap2, hC, q1, q2, ?_, ?_, ?_, hb, b1, b2⟩
  · intro e; subst e; exact a1' rfl
  · intro e; subst e; exact a2' rfl
  · intro e; subst e
    rcases a3' with h | h
    · cases h
    · exact h rfl
/-- a count as New makes it, of no page -/
theorem CountAt.empty {w : World} {base C : Nat} {batch : Int} {k : List Int} (h : CountAt w base C batch [] k) : ∃ s2, obj w C = some (.cells #[.int .i64 batch, .slice none 0 0, s2] 47 (0, 0)) := by
  obtain ⟨s1, s2, hb, hC, r1, r2, ap, h0⟩ := h
  rw [h0 rfl] at hC
  exact ⟨s2, hC⟩

set_option maxHeartbeats 800000 in
theorem clone_in (w : World) (g n cap : Nat) (f : Nat → Int) (h : RowIn w g n f) (h0 : 0 < n) (hn : n ≤ 1000000) :
    Calls Try.prog 26 #[.slice (some ⟨g, 0, none⟩) n cap] w fun e w' => ∃ g' cap', e = .returned (.slice (some ⟨g', 0, none⟩) n cap') ∧ RowIn w' g' n f ∧ Below w.heap.size w w' := by
  obtain ⟨i0, hi0, hz0, hz1, hz2⟩ := info_parts info3
  have hcell : ∀ j u, (ints ((List.range n).map f))[j]? = some u → (w.alloc (.cells #[] 3)).cell? ((⟨g, 0, none⟩ : Addr).add j) = some u := by
    intro j u hu
    obtain ⟨hj, rfl⟩ := ints_get j u hu
    obtain ⟨c, h1, h2⟩ := h
    rw [addr_add, Nat.zero_add, cell?_heap, keepA _ h1]
    exact h2 j hj
  have hmade := World.ownsRow_made (e := 3) (size := 1) w #[] 0 (Nat.le_refl _) (by unfold maxLen; omega) rfl
  have hH := Lib.hid hcell
  have hM := Lib.hid hmade
  clear hcell hmade h
  have hnil : ∀ w : World, (binOp .eql 34 (.slice (some ⟨g, 0, none⟩) n cap) (.slice none 0 0)).run Try.prog w = .ok (.bool false) w := fun w => Lib.run_eql_slice_nil w 34 3 _ _ _ _ _ Try.underlying34
  go_enter Try.func26, Try.ntmps26
  go_wp2_with (at_builtin; refine wpList_append_lies _ rfl (.tmp 5) (.tmp 6) 34 rfl w.heap.size 3 i0 _ 1 8 Try.underlying34 hi0 hz0 hz1 hz2 rfl (by omega) (.slice (some ⟨w.heap.size, 0, none⟩) 0 0) 0 [] rfl hM.out ⟨g, 0, none⟩ n cap (ints ((List.range n).map f)) rfl (by simp [ints]) hH.out (by simp [ints, Value.oneCell']) h0 (by unfold maxLen; omega) (by omega) (by simp) (w.heap.size + 1) (by simp) ?_; intro g' cap' w1 hown hgrow hat hlt)
  go_ret
  have hr : w1.ownsRow w.heap.size 3 1 (.slice (some ⟨g', 0, none⟩) n cap') n (ints ((List.range n).map f)) := by simpa using hown
  obtain ⟨g2, cap2, e, _, hrow⟩ := row_of_owns hr h0 (by simp)
  obtain ⟨rfl, rfl⟩ : g' = g2 ∧ cap' = cap2 := by simpa using e
  refine ⟨g', cap', rfl, ?_, ?_⟩
  · obtain ⟨c, h1, h2⟩ := hrow
    exact ⟨c, h1, fun j hj => by rw [h2 j hj]; simp [hj]⟩
  · exact ((Below.refl _ _).alloc (Nat.le_refl _) _).grown hgrow (by simp) fun j hj => by
      have : w.heap.size = j := by simpa [Value.ownBlock] using hj
      omega

/-! ### all counts -/
set_option maxHeartbeats 400000 in
theorem all_none (w : World) : Calls Try.prog 23 #[.pointer none] w fun e w' => e = .returned (.slice none 0 0) ∧ w = w' := by
  go_enter Try.func23, Try.ntmps23
  go_wp2
  go_ret
  exact ⟨rfl, rfl⟩
set_option maxHeartbeats 400000 in
theorem all_in {w : World} {base C g1 g2 n cap1 cap2 : Nat} {batch : Int} {now kept : Nat → Int} (h : CountIn w base C g1 g2 batch n cap1 cap2 now kept) (h0 : 0 < n) (hn : n ≤ 1000000) :
    Calls Try.prog 23 #[.pointer (some ⟨C, 0, none⟩)] w fun e w' => ∃ g' cap', e = .returned (.slice (some ⟨g', 0, none⟩) n cap') ∧ RowIn w' g' n now ∧ Below w.heap.size w w' := by
  have hC := h.hC
  have K := Lib.hid (clone_in w g1 n cap1 now h.r1 h0 hn)
  clear h
  go_enter Try.func23, Try.ntmps23
  go_wp2_with fail
  refine K.out.mono ?_
  rintro _ w1 ⟨g', cap', rfl, hr, hb⟩
  go_wp2
  go_ret
  exact ⟨g', cap', rfl, hr, hb⟩
set_option maxHeartbeats 400000 in
theorem all_empty {w : World} {C : Nat} {batch : Int} {s2 : Value} (hC : obj w C = some (.cells #[.int .i64 batch, .slice none 0 0, s2] 47 (0, 0))) :
    Calls Try.prog 23 #[.pointer (some ⟨C, 0, none⟩)] w fun e w' => e = .returned (.slice none 0 0) ∧ w = w' := by
  have hnil : ∀ w : World, (binOp .eql 34 (.slice none 0 0) (.slice none 0 0)).run Try.prog w = .ok (.bool true) w := fun w => Lib.run_eql_slice_nil w 34 3 _ _ _ _ _ Try.underlying34
  go_enter Try.func23, Try.ntmps23
  go_wp2
  go_ret
  exact ⟨rfl, rfl⟩
set_option maxHeartbeats 400000 in
theorem page_any (l : Int) (w : World) (h : -9223372036854775808 ≤ l ∧ l ≤ 9223372036854775807) : Calls Try.prog 24 #[.int .i64 l] w fun e w' => e = .returned (.int .i64 (max l 0 / 4)) ∧ w = w' := by
  go_enter Try.func24, Try.ntmps24
  go_wp2
  go_ret
  exact ⟨rfl, rfl⟩
set_option maxHeartbeats 400000 in
/-- a count that New refuses -/
theorem new_none (batch : Int) (v : Option Addr) (n cap : Nat) (w : World) (h : batch < 1 ∨ 100 < batch ∨ 16 < n) :
    Calls Try.prog 18 #[.int .i64 batch, .slice v n cap] w fun e w' => e = .returned (.pointer none) ∧ w = w' := by
  by_cases h1 : batch < 1
  · have d1 : decide (batch < 1) = true := decide_eq_true h1
    go_enter Try.func18, Try.ntmps18
    go_wp2
    go_ret
    exact ⟨rfl, rfl⟩
  · have d1 : decide (batch < 1) = false := decide_eq_false h1
    by_cases h2 : 100 < batch
    · have d2 : decide (100 < batch) = true := decide_eq_true h2
      go_enter Try.func18, Try.ntmps18
      go_wp2
      go_ret
      exact ⟨rfl, rfl⟩
    · have d2 : decide (100 < batch) = false := decide_eq_false h2
      have h3 : 16 < n := by omega
      have d3 : decide (16 < (n : Int)) = true := decide_eq_true (by omega)
      clear h
      go_enter Try.func18, Try.ntmps18
      go_wp2
      go_ret
      exact ⟨rfl, rfl⟩
set_option maxHeartbeats 800000 in
/-- of no page -/
theorem new_nil (batch : Int) (cap : Nat) (w : World) (hb1 : 1 ≤ batch) (hb2 : batch ≤ 100) :
    Calls Try.prog 18 #[.int .i64 batch, .slice none 0 cap] w fun e w' => ∃ C, e = .returned (.pointer (some ⟨C, 0, none⟩)) ∧ CountAt w' w.heap.size C batch [] [] ∧ Below w.heap.size w w' := by
  have d1 : decide (batch < 1) = false := decide_eq_false (by omega)
  have d2 : decide (100 < batch) = false := decide_eq_false (by omega)
  go_enter Try.func18, Try.ntmps18
  go_wp2
  go_loopw [24] (fun i wr => i = .int .i64 0 ∧ wr = w.alloc (.cells #[.int .i64 batch, .slice none 0 0, .slice none 0 0] 47)) (fun _ _ => 0)
  case atStart => exact ⟨rfl, rfl⟩
  case round =>
    obtain ⟨rfl, rfl⟩ := hrel
    go_wp2
    go_ret
    exact ⟨w.heap.size, rfl, ⟨.slice none 0 0, .slice none 0 0, Nat.le_refl _, newA w _, World.ownsRow_nil _ _ _ _, World.ownsRow_nil _ _ _ _, ⟨by simp [Value.ownBlock], by simp [Value.ownBlock], Or.inl rfl⟩, fun _ => rfl⟩, (Below.refl _ _).alloc (Nat.le_refl _) _⟩

/-! ### the law's awake -/
set_option maxHeartbeats 1600000 in
theorem awake10 (w : World) : Calls Try.prog 17 #[] w fun e w' => e = .returned (.bool true) ∧ Below w.heap.size w w' := by
  have K : Calls Try.prog 18 #[.int .i64 2, .slice (some ⟨w.heap.size, 0, none⟩) 2 2] (w.alloc (.cells #[.int .i64 5, .int .i64 0] 3)) _ := new_any 2 [5, 0] w.heap.size 0 2 2 _ rfl (by decide) (by decide) (by decide) (by
    intro j hj
    rw [newA]
    have : j = 0 ∨ j = 1 := by omega
    rcases this with rfl | rfl <;> rfl)
  have K' := Lib.hid K
  clear K
  go_enter Try.func17, Try.ntmps17
  go_wp2_with fail
  refine K'.out.mono ?_
  rintro _ w1 ⟨C, rfl, hc, hb⟩
  obtain ⟨g1, g2, cap1, cap2, h0⟩ := hc.countIn (by decide) rfl
  have hB1 := Lib.hid (((Below.refl w.heap.size w).alloc (Nat.le_refl _) _).trans (hb.mono (by simp)))
  obtain ⟨now, kept, h1, n0, k0⟩ : ∃ now kept, CountIn w1 (w.alloc (.cells #[.int .i64 5, .int .i64 0] 3)).heap.size C g1 g2 2 2 cap1 cap2 now kept ∧ now 0 = 5 ∧ kept 0 = 5 := ⟨_, _, h0, by decide, by decide⟩
  have K1 : Calls Try.prog 19 #[.pointer (some ⟨C, 0, none⟩), .int .i64 0] w1 _ := note_in h1 0 (by decide) (by rw [n0]; decide) (by rw [n0, k0]; decide)
  have K1' := Lib.hid K1
  clear hc hb h0 h1 K1
  go_wp2_with fail
  refine K1'.out.mono ?_
  rintro _ w2 ⟨rfl, h2, hb2⟩
  rw [n0, k0, if_neg (by decide)] at h2
  clear K1'
  obtain ⟨now2, h3, m0⟩ : ∃ now2, CountIn w2 (w.alloc (.cells #[.int .i64 5, .int .i64 0] 3)).heap.size C g1 g2 2 2 cap1 cap2 now2 kept ∧ now2 0 = 6 := ⟨_, h2, by rw [updI_same]; decide⟩
  have K2 : Calls Try.prog 19 #[.pointer (some ⟨C, 0, none⟩), .int .i64 0] w2 _ := note_in h3 0 (by decide) (by rw [m0]; decide) (by rw [m0, k0]; decide)
  have K2' := Lib.hid K2
  have hB2 := Lib.hid (hB1.out.trans (hb2.mono (by simp)))
  clear h2 h3 K2 hb2
  go_wp2_with fail
  refine K2'.out.mono ?_
  rintro _ w3 ⟨rfl, h4, hb3⟩
  rw [m0, k0, if_pos (by decide)] at h4
  clear K2'
  obtain ⟨now3, kept3, h5, p0, q0⟩ : ∃ now3 kept3, CountIn w3 (w.alloc (.cells #[.int .i64 5, .int .i64 0] 3)).heap.size C g1 g2 2 2 cap1 cap2 now3 kept3 ∧ now3 0 = 7 ∧ kept3 0 = 7 := ⟨_, _, h4, by rw [updI_same]; decide, by rw [updI_same]; decide⟩
  have K3 : Calls Try.prog 20 #[.pointer (some ⟨C, 0, none⟩), .int .i64 0] w3 _ := of_in h5 0 (by decide)
  have K4 : Calls Try.prog 21 #[.pointer (some ⟨C, 0, none⟩), .int .i64 0] w3 _ := lag_in h5 0 (by decide) (by rw [p0, q0]; decide)
  have K5 := fun k => Lib.hid (all_in (h5.drewN k) (by decide) (by decide))
  have K3' := Lib.hid K3
  have K4' := Lib.hid K4
  have K5' := Lib.hid K5
  have hB3 := Lib.hid (hB2.out.trans (hb3.mono (by simp)))
  clear h4 h5 K3 K4 K5 hb3
  go_wp2_with fail
  refine K3'.out.mono ?_
  rintro _ _ ⟨rfl, rfl⟩
  go_wp2_with fail
  refine K4'.out.mono ?_
  rintro _ _ ⟨rfl, k, rfl⟩
  go_wp2_with fail
  refine (K5'.out k).out.mono ?_
  rintro _ w5 ⟨g', cap', rfl, _, hb5⟩
  have hB5 := Lib.hid (hB3.out.trans (Below.mono (show Below w3.heap.size w3 w5 from ⟨hb5.os, hb5.tape, hb5.output, hb5.size, hb5.block⟩) hB3.out.size))
  clear hb5
  go_wp2_with (go_at_call 24; refine (page_any _ _ (by decide)).mono ?_; rintro _ _ ⟨rfl, rfl⟩)
  go_ret
  exact ⟨rfl, hB5.out⟩

/-! ### the laws of no count and of pages -/
theorem wf_i64 {a : Int} (h : (Lit.int .i64 a).wf = true) : -9223372036854775808 ≤ a ∧ a ≤ 9223372036854775807 := by
  have e1 : IntKind.min .i64 = -9223372036854775808 := by decide
  have e2 : IntKind.max .i64 = 9223372036854775807 := by decide
  simp only [Lit.wf, e1, e2, Bool.and_eq_true, decide_eq_true_eq] at h
  exact h
set_option maxHeartbeats 1600000 in
theorem countNil_walk (page line : Int) (w : World) (hp : (Lit.int .i64 page).wf = true) (hl : (Lit.int .i64 line).wf = true) :
    Calls Try.prog 8 #[.int .i64 page, .int .i64 line] w fun e w' => e = .returned (.bool true) ∧ Below w.heap.size w w' := by
  have hl' := wf_i64 hl
  have N := fun w => Lib.hid (has_none page w)
  have N' := Lib.hid N
  clear N hp hl
  by_cases h : line ≥ 0
  · have hd : decide (line ≥ 0) = true := decide_eq_true h
    have hm : max line 0 = line := Int.max_eq_left h
    have ht : line.tdiv 4 = line / 4 := Int.tdiv_eq_ediv_of_nonneg h
    have hw : IntKind.i64.wrap (line / 4) = line / 4 := by rw [IntKind.wrap_i64]; omega
    have HL := Lib.hid hl'
    clear hl' h
    go_enter Try.func8, Try.ntmps8
    go_wp2_with (first | (go_at_call 19; refine (note_no (N'.out _).out).mono ?_; rintro _ _ ⟨rfl, rfl⟩) | (go_at_call 20; refine (of_no (N'.out _).out).mono ?_; rintro _ _ ⟨rfl, rfl⟩) | (go_at_call 21; refine (lag_no (N'.out _).out).mono ?_; rintro _ _ ⟨rfl, rfl⟩) | (go_at_call 23; refine (all_none _).mono ?_; rintro _ _ ⟨rfl, rfl⟩) | (go_at_call 24; refine (page_any _ _ HL.out).mono ?_; rintro _ _ ⟨rfl, rfl⟩) | (go_at_call 17; refine (awake10 _).mono ?_; rintro _ _ ⟨rfl, hb⟩))
    go_ret
    exact ⟨rfl, hb⟩
  · have hd : decide (line ≥ 0) = false := decide_eq_false h
    have hm : max line 0 = 0 := Int.max_eq_right (by omega)
    have HL := Lib.hid hl'
    clear hl' h
    go_enter Try.func8, Try.ntmps8
    go_wp2_with (first | (go_at_call 19; refine (note_no (N'.out _).out).mono ?_; rintro _ _ ⟨rfl, rfl⟩) | (go_at_call 20; refine (of_no (N'.out _).out).mono ?_; rintro _ _ ⟨rfl, rfl⟩) | (go_at_call 21; refine (lag_no (N'.out _).out).mono ?_; rintro _ _ ⟨rfl, rfl⟩) | (go_at_call 23; refine (all_none _).mono ?_; rintro _ _ ⟨rfl, rfl⟩) | (go_at_call 24; refine (page_any _ _ HL.out).mono ?_; rintro _ _ ⟨rfl, rfl⟩) | (go_at_call 17; refine (awake10 _).mono ?_; rintro _ _ ⟨rfl, hb⟩))
    go_ret
    exact ⟨rfl, hb⟩

set_option maxHeartbeats 1600000 in
theorem countPages_walk (line : Int) (w : World) (_ : (Lit.int .i64 line).wf = true) :
    Calls Try.prog 10 #[.int .i64 line] w fun e w' => e = .returned (.bool true) ∧ Below w.heap.size w w' := by
  have h0 : 0 ≤ IntKind.u64.wrap line := by rw [IntKind.wrap_u64]; omega
  obtain ⟨l, hl⟩ : ∃ l, (IntKind.u64.wrap line).tmod 100000 = l := ⟨_, rfl⟩
  have hb : 0 ≤ l ∧ l < 100000 := by
    rw [← hl]; exact ⟨Int.tmod_nonneg _ h0, Int.tmod_lt_of_pos _ (by decide)⟩
  obtain ⟨q, hq⟩ : ∃ q, max l 0 / 4 = q := ⟨_, rfl⟩
  have hm : max l 0 = l := Int.max_eq_left hb.1
  have hq' : l / 4 = q := by rw [← hm]; exact hq
  have e1 : max (l + 4) 0 / 4 = q + 1 := by rw [Int.max_eq_left (by omega)]; omega
  have e2 : max (-1 - l) 0 / 4 = 0 := by rw [Int.max_eq_right (by omega)]; decide
  have b1 := Lib.hid (show -9223372036854775808 ≤ l ∧ l ≤ 9223372036854775807 from by omega)
  have b2 := Lib.hid (show -9223372036854775808 ≤ l + 4 ∧ l + 4 ≤ 9223372036854775807 from by omega)
  have b3 := Lib.hid (show -9223372036854775808 ≤ -1 - l ∧ -1 - l ≤ 9223372036854775807 from by omega)
  have w1 : wrap64 l = l := by unfold wrap64; omega
  have w2 : wrap64 (q * 4) = q * 4 := by unfold wrap64; omega
  have w3 : wrap64 (q + 1) = q + 1 := by unfold wrap64; omega
  have w4 : wrap64 ((q + 1) * 4) = (q + 1) * 4 := by unfold wrap64; omega
  have w5 : wrap64 (l + 4) = l + 4 := by unfold wrap64; omega
  have w6 : wrap64 (-1 - l) = -1 - l := by unfold wrap64; omega
  have d1 : decide (q ≥ 0) = true := decide_eq_true (by omega)
  have d2 : decide (q * 4 ≤ l) = true := decide_eq_true (by omega)
  have d3 : decide (l < (q + 1) * 4) = true := decide_eq_true (by omega)
  clear hm hq' h0 hb
  have e1 := Lib.hid e1
  have e2 := Lib.hid e2
  have hq := Lib.hid hq
  go_enter Try.func10, Try.ntmps10
  go_wp2_with fail
  refine (page_any _ _ b1.out).mono ?_
  rintro _ _ ⟨rfl, rfl⟩
  rw [hq.out]
  go_wp2_with fail
  refine (page_any _ _ b2.out).mono ?_
  rintro _ _ ⟨rfl, rfl⟩
  rw [e1.out]
  go_wp2_with fail
  refine (page_any _ _ b3.out).mono ?_
  rintro _ _ ⟨rfl, rfl⟩
  rw [e2.out]
  go_wp2_with (go_at_call 17; refine (awake10 _).mono ?_; rintro _ _ ⟨rfl, hb⟩)
  go_ret
  exact ⟨rfl, hb⟩
end Go.Proofs.Ytommjfmglfjgjaa
