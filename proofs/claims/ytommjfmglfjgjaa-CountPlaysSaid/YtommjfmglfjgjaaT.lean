/- The walk of CountPlays. -/
import Derived.Test.YtommjfmglfjgjaaS
namespace Go.Proofs.Ytommjfmglfjgjaa
open Go.ChangeShapes Go.WideShapes Go.RowKit

/-- the first k of a function's values, as cells -/
def rowK (f : Nat → Int) (k : Nat) : List Value := ints ((List.range k).map f)
theorem rowK_succ (f : Nat → Int) (k : Nat) : rowK f (k + 1) = rowK f k ++ [.int .i64 (f k)] := by
  unfold rowK ints
  rw [List.range_succ]; simp
theorem rowK_len (f : Nat → Int) (k : Nat) : (rowK f k).length = k := by unfold rowK ints; simp
theorem rowIn_of {w : World} {base : Nat} {v : Value} {f : Nat → Int} {n : Nat} (h : w.ownsRow base 3 1 v n (rowK f n)) (hn : 0 < n) : ∃ g cap, v = .slice (some ⟨g, 0, none⟩) n cap ∧ base ≤ g ∧ RowIn w g n f := by
  obtain ⟨g, cap, h1, h2, c, h3, h4⟩ := row_of_owns (l := (List.range n).map f) h hn (by simp)
  refine ⟨g, cap, h1, h2, c, h3, fun j hj => ?_⟩
  rw [h4 j hj]; simp [hj]

/-- what holds at the head of each round: the count, and the law's own two rows -/
structure PlayAt (w : World) (base C g1 g2 cap1 cap2 : Nat) (B n i R1 R2 : Nat) (now kept : Nat → Int) : Prop where
  hc : CountIn w base C g1 g2 (B : Int) n cap1 cap2 now kept
  r1 : RowIn w R1 n now
  r2 : RowIn w R2 n kept
  rr : R1 ≠ R2
  a1 : R1 ≠ g1
  a2 : R1 ≠ g2
  a3 : R1 ≠ C
  b1 : R2 ≠ g1
  b2 : R2 ≠ g2
  b3 : R2 ≠ C
  d1 : base ≤ R1
  d2 : base ≤ R2
  lag : ∀ j, j < n → 0 ≤ kept j ∧ kept j ≤ now j ∧ now j - kept j < B ∧ now j ≤ 1099511627776 + i

theorem RowIn.same {w w' : World} {g n : Nat} {f : Nat → Int} (h : RowIn w g n f) (e : obj w' g = obj w g) : RowIn w' g n f := by
  obtain ⟨c, h1, h2⟩ := h
  exact ⟨c, e.trans h1, h2⟩
theorem RowIn.cell {w : World} {g n : Nat} {f : Nat → Int} (h : RowIn w g n f) (j : Nat) (hj : j < n) : cellAt (obj w g) j = some (.int .i64 (f j)) ∧ iceAt (obj w g) j = false := by
  obtain ⟨c, h1, h2⟩ := h
  rw [h1]; exact ⟨h2 j hj, iceAt_some ..⟩
theorem CountIn.farSet {w : World} {base C g1 g2 n cap1 cap2 : Nat} {batch : Int} {now kept : Nat → Int} (h : CountIn w base C g1 g2 batch n cap1 cap2 now kept) (R p : Nat) (v : Value) (h1 : R ≠ g1) (h2 : R ≠ g2) (h3 : R ≠ C) :
    CountIn (w.setCell ⟨R, p, none⟩ v) base C g1 g2 batch n cap1 cap2 now kept :=
  ⟨by rw [obj_setCell_ne w _ _ C (Ne.symm h3)]; exact h.hC, h.r1.far _ _ (Ne.symm h1), h.r2.far _ _ (Ne.symm h2), h.c1, h.c2, h.gg, h.bC, h.b1, h.b2⟩

section
variable {w : World} {base C g1 g2 cap1 cap2 B n i R1 R2 : Nat} {now kept : Nat → Int}
theorem PlayAt.drewN (h : PlayAt w base C g1 g2 cap1 cap2 B n i R1 R2 now kept) (k : Nat) : PlayAt (w.drewN k) base C g1 g2 cap1 cap2 B n i R1 R2 now kept :=
  ⟨h.hc.drewN k, h.r1, h.r2, h.rr, h.a1, h.a2, h.a3, h.b1, h.b2, h.b3, h.d1, h.d2, h.lag⟩
theorem PlayAt.more (h : PlayAt w base C g1 g2 cap1 cap2 B n i R1 R2 now kept) : PlayAt w base C g1 g2 cap1 cap2 B n (i + 1) R1 R2 now kept :=
  ⟨h.hc, h.r1, h.r2, h.rr, h.a1, h.a2, h.a3, h.b1, h.b2, h.b3, h.d1, h.d2, fun j hj => by have := h.lag j hj; omega⟩
/-- one more: Note, the law's own count, and what is kept -/
theorem play_note (h : PlayAt w base C g1 g2 cap1 cap2 B n i R1 R2 now kept) (p : Nat) (hp : p < n) (hi : i ≤ 1000) :
    Calls Try.prog 19 #[.pointer (some ⟨C, 0, none⟩), .int .i64 p] w fun e w' => e = .returned (.tuple #[.int .i64 (now p + 1), .bool (decide ((B : Int) ≤ now p + 1 - kept p))]) ∧
      CountIn w' base C g1 g2 B n cap1 cap2 (updI now p (now p + 1)) (if (B : Int) ≤ now p + 1 - kept p then updI kept p (now p + 1) else kept) ∧ Below base w w' ∧ RowIn w' R1 n now ∧ RowIn w' R2 n kept := by
  have hl := h.lag p hp
  have K : Calls Try.prog 19 #[.pointer (some ⟨C, 0, none⟩), .int .i64 p] w _ := note_far h.hc p hp (by rw [IntKind.wrap_i64]; omega) (by rw [IntKind.wrap_i64]; omega)
  refine K.mono ?_
  rintro e w' ⟨rfl, hc, hb, hk⟩
  exact ⟨rfl, hc, hb, h.r1.same (hk _ h.a1 h.a2), h.r2.same (hk _ h.b1 h.b2)⟩
theorem play_step (h : PlayAt w base C g1 g2 cap1 cap2 B n i R1 R2 now kept) (p : Nat) (hp : p < n) (hB : 1 ≤ B) (hnd : ¬ (B : Int) ≤ now p + 1 - kept p) {w' : World}
    (hc : CountIn w' base C g1 g2 B n cap1 cap2 (updI now p (now p + 1)) kept) (q1 : RowIn w' R1 n (updI now p (now p + 1))) (q2 : RowIn w' R2 n kept) :
    PlayAt w' base C g1 g2 cap1 cap2 B n (i + 1) R1 R2 (updI now p (now p + 1)) kept := by
  refine ⟨hc, q1, q2, h.rr, h.a1, h.a2, h.a3, h.b1, h.b2, h.b3, h.d1, h.d2, fun j hj => ?_⟩
  have hl := h.lag j hj
  unfold updI
  split
  · subst j; omega
  · omega
theorem play_step2 (h : PlayAt w base C g1 g2 cap1 cap2 B n i R1 R2 now kept) (p : Nat) (hp : p < n) (hB : 1 ≤ B) {w' : World}
    (hc : CountIn w' base C g1 g2 B n cap1 cap2 (updI now p (now p + 1)) (updI kept p (now p + 1))) (q1 : RowIn w' R1 n (updI now p (now p + 1))) (q2 : RowIn w' R2 n (updI kept p (now p + 1))) :
    PlayAt w' base C g1 g2 cap1 cap2 B n (i + 1) R1 R2 (updI now p (now p + 1)) (updI kept p (now p + 1)) := by
  refine ⟨hc, q1, q2, h.rr, h.a1, h.a2, h.a3, h.b1, h.b2, h.b3, h.d1, h.d2, fun j hj => ?_⟩
  have hl := h.lag j hj
  unfold updI
  split
  · subst j; omega
  · omega
end
end Go.Proofs.Ytommjfmglfjgjaa
