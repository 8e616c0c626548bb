/- The walk of CountPlays. -/
import Derived.Test.YtommjfmglfjgjaaT
namespace Go.Proofs.Ytommjfmglfjgjaa
open Go.ChangeShapes Go.WideShapes Go.RowKit

set_option maxRecDepth 100000 in
set_option maxHeartbeats 6400000 in
theorem plays_no (a : Int) (ao1 ao2 : Option Addr) (n m cap1 cap2 : Nat) (w : World) (h : 400 < m ∨ 60 < n ∨ a < 1 ∨ 100 < a ∨ 16 < n) :
    Calls Try.prog 7 #[.int .i64 a, .slice ao1 n cap1, .slice ao2 m cap2] w fun e w' => e = .returned (.bool true) ∧ Below w.heap.size w w' := by
  by_cases h1 : 400 < m
  · have d1 : decide (400 < (m : Int)) = true := decide_eq_true (by omega)
    clear h h1
    go_enter Try.func7, Try.ntmps7
    go_wp2_with (go_at_call 17; refine (awake10 _).mono ?_; rintro _ _ ⟨rfl, hb⟩)
    go_ret
    exact ⟨rfl, hb⟩
  · have d1 : decide (400 < (m : Int)) = false := decide_eq_false (by omega)
    by_cases h2 : 60 < n
    · have d2 : decide (60 < (n : Int)) = true := decide_eq_true (by omega)
      clear h h1 h2
      go_enter Try.func7, Try.ntmps7
      go_wp2_with (go_at_call 17; refine (awake10 _).mono ?_; rintro _ _ ⟨rfl, hb⟩)
      go_ret
      exact ⟨rfl, hb⟩
    · have d2 : decide (60 < (n : Int)) = false := decide_eq_false (by omega)
      have h3 : a < 1 ∨ 100 < a ∨ 16 < n := by omega
      have K := Lib.hid (new_none a ao1 n cap1 w h3)
      clear h h1 h2
      by_cases e1 : 1 ≤ a
      · have f1 : decide (a ≥ 1) = true := decide_eq_true e1
        by_cases e2 : a ≤ 100
        · have f2 : decide (a ≤ 100) = true := decide_eq_true e2
          have f3 : decide ((n : Int) ≤ 16) = false := decide_eq_false (by omega)
          clear h3 e1 e2
          go_enter Try.func7, Try.ntmps7
          go_wp2_with fail
          refine K.out.mono ?_
          rintro _ _ ⟨rfl, rfl⟩
          go_wp2_with (go_at_call 17; refine (awake10 _).mono ?_; rintro _ _ ⟨rfl, hb⟩)
          go_ret
          exact ⟨rfl, hb⟩
        · have f2 : decide (a ≤ 100) = false := decide_eq_false e2
          clear h3 e1 e2
          go_enter Try.func7, Try.ntmps7
          go_wp2_with fail
          refine K.out.mono ?_
          rintro _ _ ⟨rfl, rfl⟩
          go_wp2_with (go_at_call 17; refine (awake10 _).mono ?_; rintro _ _ ⟨rfl, hb⟩)
          go_ret
          exact ⟨rfl, hb⟩
      · have f1 : decide (a ≥ 1) = false := decide_eq_false e1
        clear h3 e1
        go_enter Try.func7, Try.ntmps7
        go_wp2_with fail
        refine K.out.mono ?_
        rintro _ _ ⟨rfl, rfl⟩
        go_wp2_with (go_at_call 17; refine (awake10 _).mono ?_; rintro _ _ ⟨rfl, hb⟩)
        go_ret
        exact ⟨rfl, hb⟩

set_option maxRecDepth 100000 in
set_option maxHeartbeats 6400000 in
theorem plays_zero (a : Int) (ao1 : Option Addr) (cap1 : Nat) (v : Value) (l : List Int) (w : World) (hs : IntSlice w v l) (hl : l.length ≤ 400) (ha : 1 ≤ a ∧ a ≤ 100) :
    Calls Try.prog 7 #[.int .i64 a, .slice ao1 0 cap1, v] w fun e w' => e = .returned (.bool true) ∧ Below w.heap.size w w' := by
  obtain ⟨ao, m, cap, hv, hm⟩ : ∃ ao n cap, v = .slice ao n cap ∧ n = l.length := by
    rcases hs with ⟨ao, cap, h, rfl⟩ | ⟨b, off, cap, h, _⟩
    · exact ⟨ao, 0, cap, h, rfl⟩
    · exact ⟨_, _, _, h, rfl⟩
  subst hv
  have K := Lib.hid (new_zero a ao1 cap1 w ha.1 ha.2)
  have d1 : decide (400 < (m : Int)) = false := decide_eq_false (by omega)
  have f1 : decide (a ≥ 1) = true := decide_eq_true ha.1
  have f2 : decide (a ≤ 100) = true := decide_eq_true ha.2
  have HS := Lib.hid hs
  have HM := Lib.hid hm
  have HL := Lib.hid hl
  clear hs hm hl ha
  go_enter Try.func7, Try.ntmps7
  go_wp2_with fail
  refine K.out.mono ?_
  rintro _ wa ⟨C, s2, rfl, hC, hbC, hb⟩
  have HC := Lib.hid hC
  have HBC := Lib.hid hbC
  have HB := Lib.hid hb
  clear hC hbC hb K
  go_wp2_with fail
  go_loopw [8, 9, 47] (fun s1 s2 i wr => i = .int .i64 0 ∧ s1 = .slice none 0 0 ∧ s2 = .slice none 0 0 ∧ wr = wa) (fun _ _ _ _ => 0)
  case atStart => exact ⟨rfl, rfl, rfl, rfl⟩
  case round =>
    obtain ⟨rfl, rfl, rfl, rfl⟩ := hrel
    go_wp2_with fail
    go_loopw [65] (fun iv wr2 => ∃ i : Nat, i ≤ m ∧ iv = .int .i64 i ∧ wr2 = wr) (fun iv _ => m - (intOf iv).toNat)
    case atStart => exact ⟨0, by omega, rfl, rfl⟩
    case round =>
      obtain ⟨i, hi, rfl, rfl⟩ := hrel
      by_cases hlt : i < m
      · have hltz : (i : Int) < (m : Int) := by omega
        have wi : IntKind.i64.wrap ((i : Int) + 1) = (i : Int) + 1 := by have := HL.out; have := HM.out; rw [IntKind.wrap_i64]; omega
        have HLT := Lib.hid hlt
        rcases HS.out with ⟨ao', cap', e, h0⟩ | ⟨bb, off, cap', e, l0, _, _, hcell⟩
        · exfalso; have := HM.out; subst h0; simp at this; omega
        · obtain ⟨rfl, hml, rfl⟩ : ao = some ⟨bb, off, none⟩ ∧ m = l.length ∧ cap = cap' := by simpa using e
          have cJ := hcell i (by omega)
          have cJ' : cellAt (obj wr bb) (off + i) = some (.int .i64 (l.getD i 0)) := by
            obtain ⟨o, ho⟩ : ∃ o, obj w bb = some o := by
              cases h2 : obj w bb with
              | none => rw [h2] at cJ; simp [cellAt] at cJ
              | some o => exact ⟨o, rfl⟩
            rw [keep HB.out ho, ← ho]; exact cJ
          have j0 : (0 : Int) ≤ (i : Int) := by omega
          generalize l.getD i 0 = x at cJ'
          have N : ∀ w, obj w C = obj wr C → NoPage w (.pointer (some ⟨C, 0, none⟩)) x := fun w e => by
            rcases Int.lt_or_le x 0 with hx | hx
            · exact has_below C x w hx
            · exact has_empty (batch := a) (s2 := s2) (e.trans HC.out) x hx
          have N' := Lib.hid (N wr rfl)
          clear hcell cJ e hml l0 hlt hi
          by_cases hx : x < 0
          · have hx' : decide (x < 0) = true := decide_eq_true hx
            clear hx
            go_wp2_with (first | (go_at_call 19; refine (note_no N'.out).mono ?_; rintro _ _ ⟨rfl, rfl⟩) | (go_at_call 20; refine (of_no N'.out).mono ?_; rintro _ _ ⟨rfl, rfl⟩) | (go_at_call 21; refine (lag_no N'.out).mono ?_; rintro _ _ ⟨rfl, rfl⟩))
            exact ⟨⟨i + 1, HLT.out, by simp, trivial⟩, by have := HLT.out; simp only [intOf]; omega⟩
          · have hx' : decide (x < 0) = false := decide_eq_false hx
            have hx2 : decide (x ≥ 0) = true := decide_eq_true (by omega)
            clear hx
            go_wp2_with (first | (go_at_call 19; refine (note_no N'.out).mono ?_; rintro _ _ ⟨rfl, rfl⟩) | (go_at_call 20; refine (of_no N'.out).mono ?_; rintro _ _ ⟨rfl, rfl⟩) | (go_at_call 21; refine (lag_no N'.out).mono ?_; rintro _ _ ⟨rfl, rfl⟩))
            exact ⟨⟨i + 1, HLT.out, by simp, trivial⟩, by have := HLT.out; simp only [intOf]; omega⟩
      · have : i = m := by omega
        subst this
        have hltz : ¬ (i : Int) < (i : Int) := by omega
        go_wp2_with fail
        refine (all_empty HC.out).mono ?_
        rintro _ _ ⟨rfl, rfl⟩
        go_wp2_with fail
        refine (ints_nil _).mono ?_
        rintro _ _ ⟨rfl, rfl⟩
        go_wp2_with fail
        refine (awake10 _).mono ?_
        rintro _ wz ⟨rfl, hbz⟩
        go_wp2
        go_ret
        exact ⟨rfl, HB.out.trans (hbz.mono HB.out.size)⟩
end Go.Proofs.Ytommjfmglfjgjaa
