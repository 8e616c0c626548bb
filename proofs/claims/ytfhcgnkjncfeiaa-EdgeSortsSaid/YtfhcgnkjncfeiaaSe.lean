/- slices.symMergeCmpFunc: the plain law of the cut. -/
import Derived.Test.YtfhcgnkjncfeiaaSd
namespace Go.Proofs.Ytfhcgnkjncfeiaa
open Go.ChangeShapes Go.WideShapes Go.RowKit Fl

theorem rt_none {R : Nat → Nat} {m i j : Nat} (h : i = 0 ∨ j = 0) (hi : i ≤ m) : rt R m i j = R := by
  funext x; unfold rt
  (repeat' split) <;> first | rfl | (exfalso; omega) | (congr 1; omega)
/-- what the search of symMerge has found -/
structure Cut (R : Nat → Nat) (a m b mid st r0 s r : Nat) : Prop where
  h : a < m ∧ m < b ∧ mid = (a + b) / 2
  o1 : Ordd R a m
  o2 : Ordd R m b
  c : (m ≤ mid ∧ st = a ∧ r0 = m) ∨ (mid < m ∧ st + b = mid + m ∧ r0 = mid)
  hs : st ≤ s ∧ s ≤ r ∧ r ≤ r0
  s1 : ∀ c, st ≤ c → c < s → rank (R c) ≤ rank (R (mid + m - 1 - c))
  s2 : ∀ c, r ≤ c → c < r0 → rank (R (mid + m - 1 - c)) < rank (R c)
variable {R : Nat → Nat} {a m b mid st r0 s r : Nat}
theorem Cut.up (C : Cut R a m b mid st r0 s r) {q : Nat} (hq : q = (s + r) / 2) (hsr : s < r) (hl : ¬ rank (R (mid + m - 1 - q)) < rank (R q)) : Cut R a m b mid st r0 (q + 1) r := by
  have h := C.h; have c := C.c; have hs := C.hs
  refine ⟨C.h, C.o1, C.o2, C.c, by omega, fun x h1 h2 => ?_, C.s2⟩
  have e1 := C.o1.le (show a ≤ x by omega) (show x ≤ q by omega) (by omega)
  have e2 := C.o2.le (show m ≤ mid + m - 1 - q by omega) (show mid + m - 1 - q ≤ mid + m - 1 - x by omega) (by omega)
  omega
theorem Cut.down (C : Cut R a m b mid st r0 s r) {q : Nat} (hq : q = (s + r) / 2) (hsr : s < r) (hl : rank (R (mid + m - 1 - q)) < rank (R q)) : Cut R a m b mid st r0 s q := by
  have h := C.h; have c := C.c; have hs := C.hs
  refine ⟨C.h, C.o1, C.o2, C.c, by omega, C.s1, fun x h1 h2 => ?_⟩
  have e1 := C.o1.le (show a ≤ q by omega) (show q ≤ x by omega) (by omega)
  have e2 := C.o2.le (show m ≤ mid + m - 1 - x by omega) (show mid + m - 1 - x ≤ mid + m - 1 - q by omega) (by omega)
  omega
theorem Cut.start (h : a < m ∧ m < b ∧ mid = (a + b) / 2) (o1 : Ordd R a m) (o2 : Ordd R m b) (c : (m ≤ mid ∧ st = a ∧ r0 = m) ∨ (mid < m ∧ st + b = mid + m ∧ r0 = mid)) : Cut R a m b mid st r0 st r0 :=
  ⟨h, o1, o2, c, by omega, fun x h1 h2 => by omega, fun x h1 h2 => by omega⟩
/-- the row turned round at the cut -/
def rc (R : Nat → Nat) (m mid s : Nat) : Nat → Nat := rt R m (m - s) (mid - s)
theorem Cut.lim (C : Cut R a m b mid st r0 s s) : a ≤ s ∧ s ≤ m ∧ s ≤ mid ∧ a < mid ∧ mid < b ∧ m ≤ mid + m - s ∧ mid + m - s ≤ b ∧ mid ≤ mid + m - s := by
  have h := C.h; have c := C.c; have hs := C.hs
  omega
theorem Cut.val (C : Cut R a m b mid st r0 s s) (x : Nat) : (x < s ∧ rc R m mid s x = R x) ∨ (s ≤ x ∧ x < mid ∧ rc R m mid s x = R (x + (m - s))) ∨ (mid ≤ x ∧ x < mid + m - s ∧ rc R m mid s x = R (x - (mid - s))) ∨ (mid + m - s ≤ x ∧ rc R m mid s x = R x) := by
  have L := C.lim
  unfold rc rt
  by_cases h1 : x < s
  · left; rw [if_neg (by omega), if_neg (by omega)]; exact ⟨h1, rfl⟩
  · by_cases h2 : x < mid
    · right; left; rw [if_pos (by omega)]; exact ⟨by omega, h2, rfl⟩
    · by_cases h3 : x < mid + m - s
      · right; right; left; rw [if_neg (by omega), if_pos (by omega)]; exact ⟨by omega, h3, rfl⟩
      · right; right; right; rw [if_neg (by omega), if_neg (by omega)]; exact ⟨by omega, rfl⟩
theorem Cut.ord1 (C : Cut R a m b mid st r0 s s) : Ordd (rc R m mid s) a s := by
  have L := C.lim
  intro i j hi hij hj
  rcases C.val i with ⟨e, e'⟩ | ⟨e, f, e'⟩ | ⟨e, f, e'⟩ | ⟨e, e'⟩ <;> rcases C.val j with ⟨e2, e2'⟩ | ⟨e2, f2, e2'⟩ | ⟨e2, f2, e2'⟩ | ⟨e2, e2'⟩ <;> first | (exfalso; omega) | (rw [e', e2']; exact C.o1.le (by omega) (by omega) (by omega))
theorem Cut.ord2 (C : Cut R a m b mid st r0 s s) : Ordd (rc R m mid s) s mid := by
  have L := C.lim
  intro i j hi hij hj
  rcases C.val i with ⟨e, e'⟩ | ⟨e, f, e'⟩ | ⟨e, f, e'⟩ | ⟨e, e'⟩ <;> rcases C.val j with ⟨e2, e2'⟩ | ⟨e2, f2, e2'⟩ | ⟨e2, f2, e2'⟩ | ⟨e2, e2'⟩ <;> first | (exfalso; omega) | (rw [e', e2']; exact C.o2.le (by omega) (by omega) (by omega))
theorem Cut.ord3 (C : Cut R a m b mid st r0 s s) : Ordd (rc R m mid s) mid (mid + m - s) := by
  have L := C.lim
  intro i j hi hij hj
  rcases C.val i with ⟨e, e'⟩ | ⟨e, f, e'⟩ | ⟨e, f, e'⟩ | ⟨e, e'⟩ <;> rcases C.val j with ⟨e2, e2'⟩ | ⟨e2, f2, e2'⟩ | ⟨e2, f2, e2'⟩ | ⟨e2, e2'⟩ <;> first | (exfalso; omega) | (rw [e', e2']; exact C.o1.le (by omega) (by omega) (by omega))
theorem Cut.ord4 (C : Cut R a m b mid st r0 s s) : Ordd (rc R m mid s) (mid + m - s) b := by
  have L := C.lim
  intro i j hi hij hj
  rcases C.val i with ⟨e, e'⟩ | ⟨e, f, e'⟩ | ⟨e, f, e'⟩ | ⟨e, e'⟩ <;> rcases C.val j with ⟨e2, e2'⟩ | ⟨e2, f2, e2'⟩ | ⟨e2, f2, e2'⟩ | ⟨e2, e2'⟩ <;> first | (exfalso; omega) | (rw [e', e2']; exact C.o2.le (by omega) (by omega) (by omega))
theorem Cut.cross (C : Cut R a m b mid st r0 s s) (x y : Nat) (hx : a ≤ x) (hx2 : x < mid) (hy : mid ≤ y) (hy2 : y < b) : rank (rc R m mid s x) ≤ rank (rc R m mid s y) := by
  have L := C.lim
  have h := C.h; have c := C.c; have hs := C.hs
  rcases C.val x with ⟨e, e'⟩ | ⟨e, f, e'⟩ | ⟨e, f, e'⟩ | ⟨e, e'⟩ <;> rcases C.val y with ⟨e2, e2'⟩ | ⟨e2, f2, e2'⟩ | ⟨e2, f2, e2'⟩ | ⟨e2, e2'⟩ <;> first | (exfalso; omega) | rw [e', e2']
  · exact C.o1.le (by omega) (by omega) (by omega)
  · have k := C.s1 (s - 1) (by omega) (by omega)
    have k1 := C.o1.le hx (show x ≤ s - 1 by omega) (by omega)
    have k2 := C.o2.le (show m ≤ mid + m - 1 - (s - 1) by omega) (show mid + m - 1 - (s - 1) ≤ y by omega) hy2
    omega
  · have k := C.s2 s (Nat.le_refl _) (by omega)
    have k1 := C.o2.le (show m ≤ x + (m - s) by omega) (show x + (m - s) ≤ mid + m - 1 - s by omega) (by omega)
    have k2 := C.o1.le (show a ≤ s by omega) (show s ≤ y - (mid - s) by omega) (by omega)
    omega
  · exact C.o2.le (by omega) (by omega) (by omega)
theorem Cut.join (C : Cut R a m b mid st r0 s s) {n : Nat} {R2 R3 : Nat → Nat} (h1 : Seg a mid n (rc R m mid s) R2) (o1 : Ordd R2 a mid) (h2 : Seg mid b n R2 R3) (o2 : Ordd R3 mid b) : Ordd R3 a b := by
  have x2 : ∀ x, a ≤ x → x < mid → ∀ y, mid ≤ y → y < b → rank (R2 x) ≤ rank (R2 y) := h1.2.2 (fun v => ∀ y, mid ≤ y → y < b → rank v ≤ rank (R2 y)) (fun x hx hx2 y hy hy2 => by
    rw [h1.1 y (Or.inr hy)]; exact C.cross x y hx hx2 hy hy2)
  have x3 : ∀ y, mid ≤ y → y < b → ∀ x, a ≤ x → x < mid → rank (R2 x) ≤ rank (R3 y) := h2.2.2 (fun v => ∀ x, a ≤ x → x < mid → rank (R2 x) ≤ rank v) (fun y hy hy2 x hx hx2 => x2 x hx hx2 y hy hy2)
  intro i j hi hij hj
  by_cases hjm : j < mid
  · rw [h2.1 i (Or.inl (by omega)), h2.1 j (Or.inl hjm)]; exact o1 i j hi hij hjm
  · by_cases him : i < mid
    · rw [h2.1 i (Or.inl him)]; exact x3 j (by omega) hj i hi him
    · exact o2 i j (by omega) hij hj
end Go.Proofs.Ytfhcgnkjncfeiaa
