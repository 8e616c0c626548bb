/- slices.rotateCmpFunc. -/
import Derived.Test.YtfhcgnkjncfeiaaSa
namespace Go.Proofs.Ytfhcgnkjncfeiaa
open Go.ChangeShapes Go.WideShapes Go.RowKit Fl

/-- i numbers ahead of m and j from m on, turned round -/
def rt (R : Nat → Nat) (m i j : Nat) : Nat → Nat := fun x => if m - i ≤ x ∧ x < m - i + j then R (x + i) else if m - i + j ≤ x ∧ x < m + j then R (x - j) else R x
theorem rt_left (R : Nat → Nat) (m i j : Nat) (hi : i ≤ m) (h : j < i) : rt (swr R (m - i) m j) m (i - j) j = rt R m i j := by
  have e : m - (m - i) = i := by omega
  funext x
  unfold rt swr
  rw [e]
  (repeat' split) <;> first | rfl | (exfalso; omega) | (congr 1; omega)
theorem rt_right (R : Nat → Nat) (m i j : Nat) (hi : i ≤ m) (h : i < j) : rt (swr R (m - i) (m + j - i) i) m i (j - i) = rt R m i j := by
  have e : m + j - i - (m - i) = j := by omega
  funext x
  unfold rt swr
  rw [e]
  (repeat' split) <;> first | rfl | (exfalso; omega) | (congr 1; omega)
theorem rt_end (R : Nat → Nat) (m i : Nat) (hi : i ≤ m) : swr R (m - i) m i = rt R m i i := by
  have e : m - (m - i) = i := by omega
  funext x
  unfold rt swr
  rw [e]
  (repeat' split) <;> first | rfl | (exfalso; omega) | (congr 1; omega)

set_option maxRecDepth 100000 in
set_option maxHeartbeats 3200000 in
theorem rotate_any {w w0 : World} {base g n : Nat} {R : Nat → Nat} (h : RowG w w0 base g n R) (cap a m b : Nat) (fv : Value) (ham : a < m) (hmb : m < b) (hbn : b ≤ n) (hn : n ≤ 100000) :
    Calls Try.prog 93 #[.slice (some ⟨g, 0, none⟩) n cap, .int .i64 a, .int .i64 m, .int .i64 b, fv] w fun e w' => e = .returned (.tuple #[]) ∧ RowG w' w0 base g n (rt R m (m - a) (b - m)) ∧ Seg a b n R (rt R m (m - a) (b - m)) := by
  have H := Lib.hid h
  have HH := Lib.hid (show a < m ∧ m < b ∧ b ≤ n ∧ n ≤ 100000 from ⟨ham, hmb, hbn, hn⟩)
  have w1 : IntKind.i64.wrap ((m : Int) - (a : Int)) = ((m - a : Nat) : Int) := by rw [IntKind.wrap_i64]; omega
  have w2 : IntKind.i64.wrap ((b : Int) - (m : Int)) = ((b - m : Nat) : Int) := by rw [IntKind.wrap_i64]; omega
  obtain ⟨X, hX⟩ : ∃ X, m - a = X := ⟨_, rfl⟩
  obtain ⟨Y, hY⟩ : ∃ Y, b - m = Y := ⟨_, rfl⟩
  rw [hX] at w1 ⊢
  rw [hY] at w2 ⊢
  have HX := Lib.hid hX
  have HY := Lib.hid hY
  clear h ham hmb hbn hn hX hY
  go_enter Try.func93, Try.ntmps93
  go_wp2_with fail
  go_loopw [10, 11] (fun iv jv wr => ∃ i j : Nat, iv = .int .i64 i ∧ jv = .int .i64 j ∧ 1 ≤ i ∧ 1 ≤ j ∧ i ≤ X ∧ j ≤ Y ∧ ∃ R', RowG wr w0 base g n R' ∧ rt R' m i j = rt R m X Y ∧ Seg a b n R R') (fun iv jv _ => (intOf iv).toNat + (intOf jv).toNat)
  case atStart => exact ⟨X, Y, rfl, rfl, by have := HX.out; have := HH.out; omega, by have := HY.out; have := HH.out; omega, Nat.le_refl _, Nat.le_refl _, R, H.out, rfl, Seg.refl ..⟩
  case round =>
    obtain ⟨i, j, rfl, rfl, i1, j1, iX, jY, R', hr, ht, hs⟩ := hrel
    have HR := Lib.hid hr
    have HT := Lib.hid ht
    have HS := Lib.hid hs
    have HI := Lib.hid (show 1 ≤ i ∧ 1 ≤ j ∧ i ≤ X ∧ j ≤ Y from ⟨i1, j1, iX, jY⟩)
    have hXY := And.intro HX.out HY.out
    have hh := HH.out
    by_cases hij : i = j
    · have e1 : ((i : Int) == (j : Int)) = true := by rw [hij]; simp
      have e2 : ((i : Int) != (j : Int)) = false := by rw [hij]; simp
      have e3 : decide (i = j) = true := decide_eq_true hij
      have wa : IntKind.i64.wrap ((m : Int) - (i : Int)) = ((m - i : Nat) : Int) := by rw [IntKind.wrap_i64]; omega
      have K := swapRange_any hr cap (m - i) m i fv (by omega) (by omega) (by omega)
      rw [rt_end R' m i (by omega)] at K
      have K := Lib.hid K
      have HE := Lib.hid hij
      clear hr ht hs i1 j1 iX jY hXY hh hij
      go_wp2_with fail
      refine K.out.mono ?_
      rintro _ w5 ⟨rfl, h5, s5⟩
      have e : rt R' m i i = rt R m X Y := by rw [← HT.out, ← HE.out]
      rw [e] at h5 s5
      have H5 := Lib.hid h5
      have S5 := Lib.hid (HS.out.trans (s5.mono (by have := HX.out; have := HI.out; have := HH.out; omega) (by have := HY.out; have := HI.out; have := HH.out; have := HE.out; omega)))
      clear h5 s5 e
      go_wp2
      go_end0
      exact ⟨rfl, H5.out, S5.out⟩
    · have e1 : ((i : Int) == (j : Int)) = false := by simp; omega
      have e2 : ((i : Int) != (j : Int)) = true := by simp; omega
      have e3 : decide (i = j) = false := decide_eq_false hij
      by_cases hlt : j < i
      · have d1 : decide ((i : Int) > (j : Int)) = true := decide_eq_true (by omega)
        have d2 : decide (j < i) = true := decide_eq_true hlt
        have wa : IntKind.i64.wrap ((m : Int) - (i : Int)) = ((m - i : Nat) : Int) := by rw [IntKind.wrap_i64]; omega
        have wb : IntKind.i64.wrap ((i : Int) - (j : Int)) = ((i - j : Nat) : Int) := by rw [IntKind.wrap_i64]; omega
        have K := swapRange_any hr cap (m - i) m j fv (by omega) (by omega) (by omega)
        have ht2 := rt_left R' m i j (by omega) hlt
        have K := Lib.hid K
        have HT2 := Lib.hid ht2
        have HLT := Lib.hid hlt
        obtain ⟨I, hI⟩ : ∃ I, i - j = I := ⟨_, rfl⟩
        rw [hI] at wb
        have HI2 := Lib.hid hI
        clear hr ht hs i1 j1 iX jY hXY hh hij hlt ht2 hI
        go_wp2_with fail
        refine K.out.mono ?_
        rintro _ w5 ⟨rfl, h5, s5⟩
        have H5 := Lib.hid h5
        have S5 := Lib.hid (HS.out.trans (s5.mono (by have := HX.out; have := HI.out; have := HH.out; omega) (by have := HY.out; have := HI.out; have := HH.out; omega)))
        clear h5 s5
        go_wp2_with fail
        exact ⟨⟨I, j, rfl, rfl, by have := HI2.out; have := HLT.out; omega, HI.out.2.1, by have := HI2.out; have := HI.out; omega, HI.out.2.2.2, _, H5.out, by rw [← HI2.out, HT2.out]; exact HT.out, S5.out⟩, by have := HI2.out; have := HLT.out; have := HI.out; simp only [intOf]; omega⟩
      · have d1 : decide ((i : Int) > (j : Int)) = false := decide_eq_false (by omega)
        have d2 : decide (j < i) = false := decide_eq_false hlt
        have wa : IntKind.i64.wrap ((m : Int) - (i : Int)) = ((m - i : Nat) : Int) := by rw [IntKind.wrap_i64]; omega
        have wc : IntKind.i64.wrap ((m : Int) + (j : Int)) = (m : Int) + (j : Int) := by rw [IntKind.wrap_i64]; omega
        have wd : IntKind.i64.wrap ((m : Int) + (j : Int) - (i : Int)) = ((m + j - i : Nat) : Int) := by rw [IntKind.wrap_i64]; omega
        have wb : IntKind.i64.wrap ((j : Int) - (i : Int)) = ((j - i : Nat) : Int) := by rw [IntKind.wrap_i64]; omega
        have K := swapRange_any hr cap (m - i) (m + j - i) i fv (by omega) (by omega) (by omega)
        have ht2 := rt_right R' m i j (by omega) (by omega)
        have K := Lib.hid K
        have HT2 := Lib.hid ht2
        have HLT := Lib.hid (show i < j by omega)
        obtain ⟨J, hJ⟩ : ∃ J, j - i = J := ⟨_, rfl⟩
        rw [hJ] at wb
        have HJ2 := Lib.hid hJ
        clear hr ht hs i1 j1 iX jY hXY hh hij hlt ht2 hJ
        go_wp2_with fail
        refine K.out.mono ?_
        rintro _ w5 ⟨rfl, h5, s5⟩
        have H5 := Lib.hid h5
        have S5 := Lib.hid (HS.out.trans (s5.mono (by have := HX.out; have := HI.out; have := HH.out; omega) (by have := HY.out; have := HI.out; have := HH.out; have := HLT.out; omega)))
        clear h5 s5
        go_wp2_with fail
        exact ⟨⟨i, J, rfl, rfl, HI.out.1, by have := HJ2.out; have := HLT.out; omega, HI.out.2.2.1, by have := HJ2.out; have := HI.out; omega, _, H5.out, by rw [← HJ2.out, HT2.out]; exact HT.out, S5.out⟩, by have := HJ2.out; have := HLT.out; have := HI.out; simp only [intOf]; omega⟩
end Go.Proofs.Ytfhcgnkjncfeiaa
