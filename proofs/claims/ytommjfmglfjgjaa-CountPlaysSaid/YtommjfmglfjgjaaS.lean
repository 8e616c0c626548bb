/- Contracts for CountPlays: Note and what it leaves; New of no page; the document's Ints. -/
import Derived.Test.YtommjfmglfjgjaaQ
import Derived.Test.YtommjfmglfjgjaaG
namespace Go.Proofs.Ytommjfmglfjgjaa
open Go.ChangeShapes Go.WideShapes Go.RowKit

section
variable {w : World} {base C g1 g2 n cap1 cap2 : Nat} {batch : Int} {now kept : Nat → Int}
set_option maxHeartbeats 1600000 in
theorem note_far (h : CountIn w base C g1 g2 batch n cap1 cap2 now kept) (p : Nat) (hp : p < n) (hw1 : IntKind.i64.wrap (now p + 1) = now p + 1) (hw2 : IntKind.i64.wrap (now p + 1 - kept p) = now p + 1 - kept p) :
    Calls Try.prog 19 #[.pointer (some ⟨C, 0, none⟩), .int .i64 p] w fun e w' => e = .returned (.tuple #[.int .i64 (now p + 1), .bool (decide (batch ≤ now p + 1 - kept p))]) ∧
      CountIn w' base C g1 g2 batch n cap1 cap2 (updI now p (now p + 1)) (if batch ≤ now p + 1 - kept p then updI kept p (now p + 1) else kept) ∧ Below base w w' ∧ ∀ b, b ≠ g1 → b ≠ g2 → obj w' b = obj w b := by
  have H := Lib.hid (has_in h p (by omega))
  have hC := h.hC
  have c1 := h.cell1 p hp
  have i1 : iceAt (obj w g1) p = false := by
    obtain ⟨c, h1, _⟩ := h.r1
    rw [h1]; exact iceAt_some ..
  have n1 := h.c1
  have hd : decide ((p : Int) < n) = true := decide_eq_true (by omega)
  have hz : (0 : Int) ≤ (p : Int) := by omega
  have hz2 : (p : Int) < (n : Int) := by omega
  have hA := Lib.hid h
  clear h
  generalize hv : now p + 1 = a at hw1 hw2
  have HV := Lib.hid hv
  go_enter Try.func19, Try.ntmps19
  go_wp2_with (go_at_call 25; refine H.out.mono ?_; rintro _ _ ⟨rfl, rfl⟩)
  have h1 := hA.out.set1 p a hp
  have hb1 : Below base w (w.setCell ⟨g1, p, none⟩ (.int .i64 a)) := (Below.refl _ _).setCell hA.out.b1 _
  have hk1 : ∀ b, b ≠ g1 → obj (w.setCell ⟨g1, p, none⟩ (.int .i64 a)) b = obj w b := fun b hb => obj_setCell_ne w _ _ b hb
  have L : ∀ k, Calls Try.prog 21 #[.pointer (some ⟨C, 0, none⟩), .int .i64 p] ((w.setCell ⟨g1, p, none⟩ (.int .i64 a)).drewN k) fun e w' => e = .returned (.int .i64 (a - kept p)) ∧ ∃ m, w' = ((w.setCell ⟨g1, p, none⟩ (.int .i64 a)).drewN k).drewN m := by
    intro k
    have := lag_in (h1.drewN k) p hp (by rw [updI_same]; exact hw2)
    rw [updI_same] at this
    exact this
  have L' := Lib.hid L
  clear L hC c1 i1
  generalize w.setCell ⟨g1, p, none⟩ (.int .i64 a) = w1 at h1 hb1 L' hk1
  have HK := Lib.hid hk1
  clear hk1
  have hB1 := Lib.hid hb1
  clear hb1
  have hC := h1.hC
  have c1 := h1.cell1 p hp
  rw [updI_same] at c1
  have i2 : iceAt (obj w1 g2) p = false := by
    obtain ⟨c, h1, _⟩ := h1.r2
    rw [h1]; exact iceAt_some ..
  have c2 := h1.cell2 p hp
  have hA1 := Lib.hid h1
  have n2 := h1.c2
  have n3 := h1.gg
  clear h1
  by_cases due : batch ≤ a - kept p
  · have hdue : decide (a - kept p ≥ batch) = true := decide_eq_true due
    go_quiet ((go_at_call 21; exact Calls.quiet_of (L'.out _)))
    go_wp2
    go_still_tail 13, (by kernel_rfl)
    go_wp2
    go_ret2
    refine ⟨rfl, ?_, ?_, ?_⟩
    · exact (hA1.out.drewN (nq + 1)).set2 p a hp
    · exact Below.setCell (w := w1.drewN (nq + 1)) ⟨hB1.out.os, hB1.out.tape, hB1.out.output, hB1.out.size, hB1.out.block⟩ hA1.out.b2 _
    · exact fun b hb1 hb2 => (obj_setCell_ne (w1.drewN (nq + 1)) _ _ b hb2).trans (HK.out b hb1)
  · have hdue : decide (a - kept p ≥ batch) = false := decide_eq_false due
    go_quiet ((go_at_call 21; exact Calls.quiet_of (L'.out _)))
    go_wp2
    go_ret2
    refine ⟨rfl, ?_, ?_, ?_⟩
    · exact hA1.out.drewN nq
    · exact ⟨hB1.out.os, hB1.out.tape, hB1.out.output, hB1.out.size, hB1.out.block⟩
    · exact fun b hb1 _ => HK.out b hb1
end

set_option maxHeartbeats 800000 in
/-- of no page -/
theorem new_zero (batch : Int) (ao : Option Addr) (cap : Nat) (w : World) (hb1 : 1 ≤ batch) (hb2 : batch ≤ 100) :
    Calls Try.prog 18 #[.int .i64 batch, .slice ao 0 cap] w fun e w' => ∃ C s2, e = .returned (.pointer (some ⟨C, 0, none⟩)) ∧ obj w' C = some (.cells #[.int .i64 batch, .slice none 0 0, s2] 47 (0, 0)) ∧ w.heap.size ≤ C ∧ Below w.heap.size w w' := by
  have d1 : decide (batch < 1) = false := decide_eq_false (by omega)
  have d2 : decide (100 < batch) = false := decide_eq_false (by omega)
  cases ao
  all_goals
    go_enter Try.func18, Try.ntmps18
    go_wp2
    go_loopw [24] (fun i wr => i = .int .i64 0 ∧ wr = w.alloc (.cells #[.int .i64 batch, .slice none 0 0, .slice none 0 0] 47)) (fun _ _ => 0)
    case atStart => exact ⟨rfl, rfl⟩
    case round =>
      obtain ⟨rfl, rfl⟩ := hrel
      go_wp2
      go_ret
      exact ⟨w.heap.size, _, rfl, newA w _, Nat.le_refl _, (Below.refl _ _).alloc (Nat.le_refl _) _⟩

/-! ### the document's Ints -/
set_option maxHeartbeats 800000 in
theorem ints_nil (w : World) : Calls Try.prog 22 #[.slice none 0 0, .slice none 0 0] w fun e w' => e = .returned (.bool true) ∧ w = w' := by
  go_enter Try.func22, Try.ntmps22
  go_wp2
  go_loopw [13] (fun i wr => i = .int .i64 0 ∧ wr = w) (fun _ _ => 0)
  case atStart => exact ⟨rfl, rfl⟩
  case round =>
    obtain ⟨rfl, rfl⟩ := hrel
    go_wp2
    go_ret
    exact ⟨rfl, rfl⟩
set_option maxHeartbeats 800000 in
theorem ints_same (w : World) (a b n capA capB : Nat) (f : Nat → Int) (ha : RowIn w a n f) (hb : RowIn w b n f) (hn : n ≤ 1000000) :
    Calls Try.prog 22 #[.slice (some ⟨a, 0, none⟩) n capA, .slice (some ⟨b, 0, none⟩) n capB] w fun e w' => e = .returned (.bool true) ∧ ∃ k, w' = w.drewN k := by
  have A : ∀ j, j < n → cellAt (obj w a) j = some (.int .i64 (f j)) := fun j hj => by
    obtain ⟨c, h1, h2⟩ := ha
    rw [h1]; exact h2 j hj
  have B : ∀ j, j < n → cellAt (obj w b) j = some (.int .i64 (f j)) := fun j hj => by
    obtain ⟨c, h1, h2⟩ := hb
    rw [h1]; exact h2 j hj
  have A' := Lib.hid A
  have B' := Lib.hid B
  clear A B ha hb
  go_enter Try.func22, Try.ntmps22
  go_wp2
  go_loopw [13] (fun i wr => ∃ k d, k ≤ n ∧ i = .int .i64 k ∧ wr = w.drewN d) (fun i _ => n - (intOf i).toNat)
  case atStart => exact ⟨0, 0, by omega, rfl, rfl⟩
  case round =>
    obtain ⟨k, d, hk, rfl, rfl⟩ := hrel
    by_cases hlt : k < n
    · have hltz : (k : Int) < (n : Int) := by omega
      have k0 : (0 : Int) ≤ (k : Int) := by omega
      have cA := A'.out k hlt
      have cB := B'.out k hlt
      go_wp2_with fail
      go_quiet (fail)
      go_wp2
      exact ⟨⟨k + 1, d + nq, by omega, by simp, rfl⟩, by simp only [intOf]; omega⟩
    · have : k = n := by omega
      subst this
      have hltz : ¬ (k : Int) < (k : Int) := by omega
      go_wp2
      go_ret
      exact ⟨rfl, d, rfl⟩
end Go.Proofs.Ytommjfmglfjgjaa
