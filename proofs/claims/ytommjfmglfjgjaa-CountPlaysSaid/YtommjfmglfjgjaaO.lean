/- Contracts of package count, of a count that lies with its two rows. -/
import Derived.Test.YtommjfmglfjgjaaN
import Derived.StillTailTactics
namespace Go.Proofs.Ytommjfmglfjgjaa
open Go.ChangeShapes Go.WideShapes Go.RowKit

/-- a row of n whole numbers lies in a block -/
def RowIn (w : World) (g n : Nat) (f : Nat → Int) : Prop := ∃ c : Array Value, obj w g = some (.cells c 3 (0, 0)) ∧ ∀ j, j < n → nth c j = some (.int .i64 (f j))
/-- a count of n pages lies in the blocks C, g1, g2 -/
structure CountIn (w : World) (base C g1 g2 : Nat) (batch : Int) (n cap1 cap2 : Nat) (now kept : Nat → Int) : Prop where
  hC : obj w C = some (.cells #[.int .i64 batch, .slice (some ⟨g1, 0, none⟩) n cap1, .slice (some ⟨g2, 0, none⟩) n cap2] 47 (0, 0))
  r1 : RowIn w g1 n now
  r2 : RowIn w g2 n kept
  c1 : C ≠ g1
  c2 : C ≠ g2
  gg : g1 ≠ g2
  bC : base ≤ C
  b1 : base ≤ g1
  b2 : base ≤ g2

section
variable {w : World} {base C g1 g2 n cap1 cap2 : Nat} {batch : Int} {now kept : Nat → Int}
theorem CountIn.cell1 (h : CountIn w base C g1 g2 batch n cap1 cap2 now kept) (j : Nat) (hj : j < n) : cellAt (obj w g1) j = some (.int .i64 (now j)) := by
  obtain ⟨c, h1, h2⟩ := h.r1
  rw [h1]; exact h2 j hj
theorem CountIn.cell2 (h : CountIn w base C g1 g2 batch n cap1 cap2 now kept) (j : Nat) (hj : j < n) : cellAt (obj w g2) j = some (.int .i64 (kept j)) := by
  obtain ⟨c, h1, h2⟩ := h.r2
  rw [h1]; exact h2 j hj

/-! ### a page that there isn't -/
set_option maxHeartbeats 400000 in
theorem has_none (p : Int) (w : World) : Calls Try.prog 25 #[.pointer none, .int .i64 p] w fun e w' => e = .returned (.bool false) ∧ w = w' := by
  go_enter Try.func25, Try.ntmps25
  go_wp2
  go_ret
  exact ⟨rfl, rfl⟩
set_option maxHeartbeats 400000 in
theorem has_below (C : Nat) (p : Int) (w : World) (hp : p < 0) : Calls Try.prog 25 #[.pointer (some ⟨C, 0, none⟩), .int .i64 p] w fun e w' => e = .returned (.bool false) ∧ w = w' := by
  have h : decide (p ≥ 0) = false := decide_eq_false (by omega)
  go_enter Try.func25, Try.ntmps25
  go_wp2
  go_ret
  exact ⟨rfl, rfl⟩
set_option maxHeartbeats 400000 in
theorem has_in (h : CountIn w base C g1 g2 batch n cap1 cap2 now kept) (p : Int) (hp : 0 ≤ p) : Calls Try.prog 25 #[.pointer (some ⟨C, 0, none⟩), .int .i64 p] w fun e w' => e = .returned (.bool (decide (p < n))) ∧ w = w' := by
  have hC := h.hC
  clear h
  go_enter Try.func25, Try.ntmps25
  go_wp2
  go_ret
  exact ⟨rfl, rfl⟩
set_option maxHeartbeats 400000 in
theorem has_empty {s2 : Value} (hC : obj w C = some (.cells #[.int .i64 batch, .slice none 0 0, s2] 47 (0, 0))) (p : Int) (hp : 0 ≤ p) : Calls Try.prog 25 #[.pointer (some ⟨C, 0, none⟩), .int .i64 p] w fun e w' => e = .returned (.bool false) ∧ w = w' := by
  have h : ¬ p < 0 := by omega
  go_enter Try.func25, Try.ntmps25
  go_wp2
  go_ret
  exact ⟨by simp [h], rfl⟩

/-- there is no such page -/
def NoPage (w : World) (c : Value) (p : Int) : Prop := Calls Try.prog 25 #[c, .int .i64 p] w fun e w' => e = .returned (.bool false) ∧ w = w'
set_option maxHeartbeats 400000 in
theorem of_no {c : Value} {p : Int} (h : NoPage w c p) : Calls Try.prog 20 #[c, .int .i64 p] w fun e w' => e = .returned (.int .i64 0) ∧ w = w' := by
  have H := Lib.hid h
  clear h
  go_enter Try.func20, Try.ntmps20
  go_wp2_with (go_at_call 25; refine H.out.mono ?_; rintro _ _ ⟨rfl, rfl⟩)
  go_ret
  exact ⟨rfl, rfl⟩
set_option maxHeartbeats 400000 in
theorem lag_no {c : Value} {p : Int} (h : NoPage w c p) : Calls Try.prog 21 #[c, .int .i64 p] w fun e w' => e = .returned (.int .i64 0) ∧ w = w' := by
  have H := Lib.hid h
  clear h
  go_enter Try.func21, Try.ntmps21
  go_wp2_with (go_at_call 25; refine H.out.mono ?_; rintro _ _ ⟨rfl, rfl⟩)
  go_ret
  exact ⟨rfl, rfl⟩
set_option maxHeartbeats 400000 in
theorem note_no {c : Value} {p : Int} (h : NoPage w c p) : Calls Try.prog 19 #[c, .int .i64 p] w fun e w' => e = .returned (.tuple #[.int .i64 0, .bool false]) ∧ w = w' := by
  have H := Lib.hid h
  clear h
  go_enter Try.func19, Try.ntmps19
  go_wp2_with (go_at_call 25; refine H.out.mono ?_; rintro _ _ ⟨rfl, rfl⟩)
  go_ret2
  exact ⟨rfl, rfl⟩

/-! ### a page that there is -/
set_option maxHeartbeats 400000 in
theorem of_in (h : CountIn w base C g1 g2 batch n cap1 cap2 now kept) (p : Nat) (hp : p < n) : Calls Try.prog 20 #[.pointer (some ⟨C, 0, none⟩), .int .i64 p] w fun e w' => e = .returned (.int .i64 (now p)) ∧ w = w' := by
  have H := Lib.hid (has_in h p (by omega))
  have hC := h.hC
  have c1 := h.cell1 p hp
  have hd : decide ((p : Int) < n) = true := decide_eq_true (by omega)
  have hz : (0 : Int) ≤ (p : Int) := by omega
  have hz2 : (p : Int) < (n : Int) := by omega
  clear h
  go_enter Try.func20, Try.ntmps20
  go_wp2_with (go_at_call 25; refine H.out.mono ?_; rintro _ _ ⟨rfl, rfl⟩)
  go_ret
  exact ⟨rfl, rfl⟩
set_option maxHeartbeats 800000 in
theorem lag_in (h : CountIn w base C g1 g2 batch n cap1 cap2 now kept) (p : Nat) (hp : p < n) (hb : IntKind.i64.wrap (now p - kept p) = now p - kept p) :
    Calls Try.prog 21 #[.pointer (some ⟨C, 0, none⟩), .int .i64 p] w fun e w' => e = .returned (.int .i64 (now p - kept p)) ∧ ∃ k, w' = w.drewN k := by
  have H := Lib.hid (has_in h p (by omega))
  have hC := h.hC
  have c1 := h.cell1 p hp
  have c2 := h.cell2 p hp
  have hd : decide ((p : Int) < n) = true := decide_eq_true (by omega)
  have hz : (0 : Int) ≤ (p : Int) := by omega
  have hz2 : (p : Int) < (n : Int) := by omega
  clear h
  go_enter Try.func21, Try.ntmps21
  go_wp2_with (go_at_call 25; refine H.out.mono ?_; rintro _ _ ⟨rfl, rfl⟩)
  go_quiet (fail)
  go_wp2

  go_ret
  exact ⟨rfl, _, rfl⟩

theorem CountIn.drewN (h : CountIn w base C g1 g2 batch n cap1 cap2 now kept) (k : Nat) : CountIn (w.drewN k) base C g1 g2 batch n cap1 cap2 now kept :=
  ⟨h.hC, h.r1, h.r2, h.c1, h.c2, h.gg, h.bC, h.b1, h.b2⟩
/-- one of a row written -/
def updI (f : Nat → Int) (p : Nat) (a : Int) : Nat → Int := fun j => if j = p then a else f j
theorem RowIn.set {w : World} {g n : Nat} {f : Nat → Int} (h : RowIn w g n f) (p : Nat) (a : Int) (hp : p < n) : RowIn (w.setCell ⟨g, p, none⟩ (.int .i64 a)) g n (updI f p a) := by
  obtain ⟨c, h1, h2⟩ := h
  refine ⟨c.setIfInBounds p (.int .i64 a), by rw [obj_setCell_eq, h1]; rfl, fun j hj => ?_⟩
  unfold updI nth
  by_cases hjp : j = p
  · subst hjp
    have : j < c.size := by
      have := h2 j hj
      unfold nth at this
      exact (Array.getElem?_eq_some_iff.1 this).1
    rw [if_pos rfl, Array.getElem?_setIfInBounds_self_of_lt this]
  · rw [if_neg hjp, Array.getElem?_setIfInBounds_ne (Ne.symm hjp)]; exact h2 j hj
theorem RowIn.far {w : World} {g n : Nat} {f : Nat → Int} (h : RowIn w g n f) (a : Addr) (v : Value) (hg : g ≠ a.block) : RowIn (w.setCell a v) g n f := by
  obtain ⟨c, h1, h2⟩ := h
  exact ⟨c, by rw [obj_setCell_ne w a v g hg]; exact h1, h2⟩
theorem CountIn.set1 (h : CountIn w base C g1 g2 batch n cap1 cap2 now kept) (p : Nat) (a : Int) (hp : p < n) : CountIn (w.setCell ⟨g1, p, none⟩ (.int .i64 a)) base C g1 g2 batch n cap1 cap2 (updI now p a) kept :=
  ⟨by rw [obj_setCell_ne w _ _ C h.c1]; exact h.hC, h.r1.set p a hp, h.r2.far _ _ h.gg.symm, h.c1, h.c2, h.gg, h.bC, h.b1, h.b2⟩
theorem CountIn.set2 (h : CountIn w base C g1 g2 batch n cap1 cap2 now kept) (p : Nat) (a : Int) (hp : p < n) : CountIn (w.setCell ⟨g2, p, none⟩ (.int .i64 a)) base C g1 g2 batch n cap1 cap2 now (updI kept p a) :=
  ⟨by rw [obj_setCell_ne w _ _ C h.c2]; exact h.hC, h.r1.far _ _ h.gg, h.r2.set p a hp, h.c1, h.c2, h.gg, h.bC, h.b1, h.b2⟩
theorem CountIn.below (h : CountIn w base C g1 g2 batch n cap1 cap2 now kept) {w' : World} (hb : Below w.heap.size w w') : CountIn w' base C g1 g2 batch n cap1 cap2 now kept := by
  obtain ⟨c, h1, h2⟩ := h.r1
  obtain ⟨d, h3, h4⟩ := h.r2
  exact ⟨keep hb h.hC, ⟨c, keep hb h1, h2⟩, ⟨d, keep hb h3, h4⟩, h.c1, h.c2, h.gg, h.bC, h.b1, h.b2⟩
theorem updI_same (f : Nat → Int) (p : Nat) (a : Int) : updI f p a p = a := by simp [updI]

@[go_sem] theorem obj_mk (w : World) (t : Nat → Question → Nat) (k : Nat) (o : Os) (u : Array (Nat × ByteArray)) (g : Nat) : obj ⟨w.heap, t, k, o, u⟩ g = obj w g := rfl

set_option maxHeartbeats 1600000 in
theorem note_in (h : CountIn w base C g1 g2 batch n cap1 cap2 now kept) (p : Nat) (hp : p < n) (hw1 : IntKind.i64.wrap (now p + 1) = now p + 1) (hw2 : IntKind.i64.wrap (now p + 1 - kept p) = now p + 1 - kept p) :
    Calls Try.prog 19 #[.pointer (some ⟨C, 0, none⟩), .int .i64 p] w fun e w' => e = .returned (.tuple #[.int .i64 (now p + 1), .bool (decide (batch ≤ now p + 1 - kept p))]) ∧
      CountIn w' base C g1 g2 batch n cap1 cap2 (updI now p (now p + 1)) (if batch ≤ now p + 1 - kept p then updI kept p (now p + 1) else kept) ∧ Below base w w' := by
  have H := Lib.hid (has_in h p (by omega))
  have hC := h.hC
  have c1 := h.cell1 p hp
  have i1 : iceAt (obj w g1) p = false := by
    obtain ⟨c, h1, _⟩ := h.r1
    rw [h1]; exact iceAt_some ..
  have n1 := h.c1
  have hd : decide ((p : Int) < n) = true := decide_eq_true (by omega)
  have hz : (0 : Int) ≤ (p : Int) := by omega
  have hz2 : (p : Int) < (n : Int) := by omega
  have hA := Lib.hid h
  clear h
  generalize hv : now p + 1 = a at hw1 hw2
  have HV := Lib.hid hv
  go_enter Try.func19, Try.ntmps19
  go_wp2_with (go_at_call 25; refine H.out.mono ?_; rintro _ _ ⟨rfl, rfl⟩)
  have h1 := hA.out.set1 p a hp
  have hb1 : Below base w (w.setCell ⟨g1, p, none⟩ (.int .i64 a)) := (Below.refl _ _).setCell hA.out.b1 _
  have L : ∀ k, Calls Try.prog 21 #[.pointer (some ⟨C, 0, none⟩), .int .i64 p] ((w.setCell ⟨g1, p, none⟩ (.int .i64 a)).drewN k) fun e w' => e = .returned (.int .i64 (a - kept p)) ∧ ∃ m, w' = ((w.setCell ⟨g1, p, none⟩ (.int .i64 a)).drewN k).drewN m := by
    intro k
    have := lag_in (h1.drewN k) p hp (by rw [updI_same]; exact hw2)
    rw [updI_same] at this
    exact this
  have L' := Lib.hid L
  clear L hC c1 i1
  generalize w.setCell ⟨g1, p, none⟩ (.int .i64 a) = w1 at h1 hb1 L'
  have hB1 := Lib.hid hb1
  clear hb1
  have hC := h1.hC
  have c1 := h1.cell1 p hp
  rw [updI_same] at c1
  have i2 : iceAt (obj w1 g2) p = false := by
    obtain ⟨c, h1, _⟩ := h1.r2
    rw [h1]; exact iceAt_some ..
  have c2 := h1.cell2 p hp
  have hA1 := Lib.hid h1
  have n2 := h1.c2
  have n3 := h1.gg
  clear h1
  by_cases due : batch ≤ a - kept p
  · have hdue : decide (a - kept p ≥ batch) = true := decide_eq_true due
    go_quiet ((go_at_call 21; exact Calls.quiet_of (L'.out _)))
    go_wp2
    go_still_tail 13, (by kernel_rfl)
    go_wp2
    go_ret2
    refine ⟨rfl, ?_, ?_⟩
    · exact (hA1.out.drewN (nq + 1)).set2 p a hp
    · exact Below.setCell (w := w1.drewN (nq + 1)) ⟨hB1.out.os, hB1.out.tape, hB1.out.output, hB1.out.size, hB1.out.block⟩ hA1.out.b2 _
  · have hdue : decide (a - kept p ≥ batch) = false := decide_eq_false due
    go_quiet ((go_at_call 21; exact Calls.quiet_of (L'.out _)))
    go_wp2
    go_ret2
    refine ⟨rfl, ?_, ?_⟩
    · exact hA1.out.drewN nq
    · exact ⟨hB1.out.os, hB1.out.tape, hB1.out.output, hB1.out.size, hB1.out.block⟩
end
end Go.Proofs.Ytommjfmglfjgjaa
