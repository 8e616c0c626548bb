/- Contracts of package nvm: New. -/
import Derived.Test.YtfhcgnkjncfeiaaGc
namespace Go.Proofs.Ytfhcgnkjncfeiaa
open Go.ChangeShapes Go.WideShapes Go.RowKit Fl

def zCell : Value := .agg #[.int .u64 0, .int .u64 0, .int .u64 0, .int .u64 0, .int .u64 0, .int .u64 0, .int .u64 0, .int .u64 0, .int .i64 0, .int .i64 0]
theorem info86 : (Try.prog.info? 86).map (fun i => (i.zero, i.size, i.bytes)) = some (some zCell, 10, 80) := by kernel_rfl
/-- lines as make makes them -/
theorem make_lines (n : Nat) (w : World) (hn : n ≤ 200) : ∃ w', (Instr.makeSlice 81 (.int .i64 (n : Int)) (.int .i64 (n : Int))).run Try.prog w = .ok (.slice (some ⟨w.heap.size, 0, none⟩) n n) w' ∧
    LinesIn w' w.heap.size n (fun _ => 0) (fun _ => 0) ∧ Below w.heap.size w w' := by
  obtain ⟨i0, hi0, hz0, hz1, hz2⟩ := info_parts info86
  obtain ⟨w', h1, h2, h3⟩ := run_make_full (P := Try.prog) w w.heap.size 81 86 i0 _ 10 Try.underlying81 hi0 hz0 hz1 .i64 .i64 n (by rw [hz2]; omega) (by unfold maxLen; omega) (Nat.le_refl _)
  refine ⟨w', h1, ?_, (Below.refl _ _).grown h3 (Nat.le_refl _) (fun _ h => by cases h)⟩
  rcases h2.2 with ⟨h0, _⟩ | ⟨g, cap, cur, hv, _, hg, _, _, hsz, ht⟩
  · cases h0
  · obtain ⟨rfl, rfl⟩ : w.heap.size = g ∧ n = cap := by simpa using hv
    have hcur : cur.toList = (madeCells zCell.cells (n * 10)).toList := by
      rw [← ht, List.take_of_length_le (by simp; omega)]
    have hat : ∀ x, x < n * 10 → nth cur x = some (zCell.cells[x % 10]!) := by
      intro x hx
      unfold nth
      rw [← Array.getElem?_toList, hcur, Array.getElem?_toList]
      unfold madeCells
      simp only [Array.getElem?_map, Array.getElem?_range, if_pos hx, Option.map_some]
      rfl
    refine ⟨cur, hg, by omega, fun j hj => ⟨?_, ?_, fun t ht => ⟨0, ?_⟩⟩⟩
    · rw [hat _ (by omega), show (10 * j + 8) % 10 = 8 by omega]; rfl
    · rw [hat _ (by omega), show (10 * j + 9) % 10 = 9 by omega]; rfl
    · rw [hat _ (by omega), show (10 * j + t) % 10 = t by omega]
      have : t = 0 ∨ t = 1 ∨ t = 2 ∨ t = 3 ∨ t = 4 ∨ t = 5 ∨ t = 6 ∨ t = 7 := by omega
      rcases this with rfl | rfl | rfl | rfl | rfl | rfl | rfl | rfl <;> rfl
set_option maxHeartbeats 800000 in
theorem mnew_bad (n : Int) (ao : Option Addr) (m cap : Nat) (w : World) (h : n < 1 ∨ 200 < n) : Calls Try.prog 47 #[.int .i64 n, .slice ao m cap] w fun e w' => e = .returned (.pointer none) ∧ w = w' := by
  by_cases h1 : n < 1
  · have d1 : decide (n < 1) = true := decide_eq_true h1
    clear h h1
    go_enter Try.func47, Try.ntmps47
    go_wp2
    go_ret
    exact ⟨rfl, rfl⟩
  · have d1 : decide (n < 1) = false := decide_eq_false h1
    have d2 : decide (200 < n) = true := decide_eq_true (by omega)
    clear h h1
    go_enter Try.func47, Try.ntmps47
    go_wp2
    go_ret
    exact ⟨rfl, rfl⟩
def limK (k j : Nat) : Int := if j < k then -1 else 0
theorem LinesIn.congr {w : World} {Cb n : Nat} {wear lim wear' lim' : Nat → Int} (h : LinesIn w Cb n wear lim) (e1 : ∀ j, j < n → wear j = wear' j) (e2 : ∀ j, j < n → lim j = lim' j) : LinesIn w Cb n wear' lim' := by
  obtain ⟨c, h1, h2, h3⟩ := h
  exact ⟨c, h1, h2, fun j hj => by rw [← e1 j hj, ← e2 j hj]; exact h3 j hj⟩
set_option maxHeartbeats 3200000 in
theorem mnew_any (n : Nat) (w : World) (h : 1 ≤ n ∧ n ≤ 200) : Calls Try.prog 47 #[.int .i64 n, .slice none 0 0] w fun e w' => ∃ Mb Cb, e = .returned (.pointer (some ⟨Mb, 0, none⟩)) ∧ Mem w' Mb Cb n (fun _ => 0) (fun _ => -1) 0 ∧ w.heap.size ≤ Mb ∧ w.heap.size ≤ Cb ∧ Below w.heap.size w w' := by
  have d1 : decide ((n : Int) < 1) = false := decide_eq_false (by omega)
  have d2 : decide (200 < (n : Int)) = false := decide_eq_false (by omega)
  obtain ⟨w1, hrun, hL, hB⟩ := make_lines n w h.2
  have hC : w.heap.size < w1.heap.size := by
    obtain ⟨c, h1, _⟩ := hL
    exact lt_of_obj h1
  have HH := Lib.hid h
  have HL := Lib.hid hL
  have HB := Lib.hid hB
  have HC := Lib.hid hC
  clear h hL hB hC
  go_enter Try.func47, Try.ntmps47
  go_wp2_with fail
  go_loopw [22] (fun i wr => ∃ k : Nat, k ≤ n ∧ i = .int .i64 k ∧ Mem wr w1.heap.size w.heap.size n (fun _ => 0) (limK k) 0 ∧ Below w.heap.size w wr) (fun i _ => n - (intOf i).toNat)
  case atStart =>
    obtain ⟨c, h1, h2⟩ := HL.out
    exact ⟨0, by omega, rfl, ⟨newA w1 _, (show LinesIn (w1.alloc _) w.heap.size n (fun _ => 0) (limK 0) from ⟨c, keepA _ h1, h2⟩), by have := HC.out; omega⟩, HB.out.alloc HB.out.size _⟩
  case round =>
    obtain ⟨k, hk, rfl, hm, hb⟩ := hrel
    have HM := Lib.hid hm
    have HBr := Lib.hid hb
    by_cases hlt : k < n
    · have hltz : (k : Int) < (n : Int) := by omega
      have k0 : (0 : Int) ≤ (k : Int) := by omega
      have kn : ¬ (k : Int) < 0 := by omega
      have wk : IntKind.i64.wrap ((k : Int) + 1) = (k : Int) + 1 := by have := HH.out; rw [IntKind.wrap_i64]; omega
      have c0 := hm.c0
      obtain ⟨_, c9, i9, _⟩ := hm.hL.cells k hlt
      have i9 := i9 (10 * k + 9)
      rw [Nat.mul_comm 10 k] at c9 i9
      have HLT := Lib.hid hlt
      clear hm hb hk hlt
      go_wp2_with fail
      have hm2 : Mem (wr.setCell ⟨w.heap.size, k * 10 + 9, none⟩ (.int .i64 (-1))) w1.heap.size w.heap.size n (fun _ => 0) (limK (k + 1)) 0 := by
        have h := HM.out.hL.setLim k HLT.out (-1)
        rw [Nat.mul_comm 10 k] at h
        refine ⟨(obj_setCell_ne wr _ _ _ HM.out.ne).trans HM.out.hM, h.congr (fun _ _ => rfl) (fun j _ => ?_), HM.out.ne⟩
        unfold limK
        by_cases e : j = k
        · subst e; simp
        · rw [if_neg e]
          by_cases e2 : j < k
          · rw [if_pos e2, if_pos (by omega)]
          · rw [if_neg e2, if_neg (by omega)]
      exact ⟨⟨k + 1, HLT.out, by simp, hm2, Below.setCell HBr.out (Nat.le_refl _) _⟩, by have := HLT.out; simp only [intOf]; omega⟩
    · have : k = n := by omega
      subst this
      have hltz : ¬ (k : Int) < (k : Int) := by omega
      clear hm hb hk hlt
      go_wp2
      go_ret
      have hL2 : LinesIn wr w.heap.size k (fun _ => 0) (fun _ => -1) := HM.out.hL.congr (fun _ _ => rfl) (fun j hj => by unfold limK; rw [if_pos hj])
      refine ⟨w1.heap.size, rfl, w.heap.size, ⟨HM.out.hM, hL2, HM.out.ne⟩, ?_, Nat.le_refl _, HBr.out⟩
      have := HC.out; omega
end Go.Proofs.Ytfhcgnkjncfeiaa
