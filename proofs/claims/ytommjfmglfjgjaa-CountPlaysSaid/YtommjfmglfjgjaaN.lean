/- Contracts of package count. -/
import Derived.Test.YtommjfmglfjgjaaM
import Derived.Test.YtommjfmglfjgjaaJ
import Derived.Deep.AppendLies
import Derived.Lib.MinMax
namespace Go.Proofs.Ytommjfmglfjgjaa
open Go.ChangeShapes Go.WideShapes Go.RowKit

/-- a count as it is kept -/
def clampK (n : Int) : Int := min (max n 0) 1099511627776
/-- a row of whole numbers -/
def ints (l : List Int) : List Value := l.map (.int .i64 ·)
/-- two rows lie apart -/
def Apart (C : Nat) (s1 s2 : Value) : Prop := s1.ownBlock ≠ some C ∧ s2.ownBlock ≠ some C ∧ (s1.ownBlock = none ∨ s1.ownBlock ≠ s2.ownBlock)
/-- a count lies in block C -/
def CountAt (w : World) (base C : Nat) (batch : Int) (now kept : List Int) : Prop :=
  ∃ s1 s2, base ≤ C ∧ obj w C = some (.cells #[.int .i64 batch, s1, s2] 47 (0, 0)) ∧ w.ownsRow base 3 1 s1 now.length (ints now) ∧ w.ownsRow base 3 1 s2 kept.length (ints kept) ∧ Apart C s1 s2 ∧ (now.length = 0 → s1 = .slice none 0 0)

/-! ### what holds while the two rows grow, whichever operations have run -/
/-- the slots' facts -/
def growL (C : Nat) (t : Int) (s1 s2 : Value) : List (Nat × Nat × Value) :=
  [(0, 31, .pointer (some ⟨C, 0, none⟩)), (1, 32, .pointer (some ⟨C, 0, none⟩)), (2, 33, .pointer (some ⟨C, 0, none⟩)), (3, 34, .pointer (some ⟨C, 0, none⟩)), (4, 35, .pointer (some ⟨C, 1, none⟩)), (5, 36, s1), (6, 37, .int .i64 t),
   (9, 40, .pointer (some ⟨C, 0, none⟩)), (10, 41, .pointer (some ⟨C, 0, none⟩)), (11, 42, .pointer (some ⟨C, 2, none⟩)), (12, 43, s2), (13, 44, .int .i64 t),
   (16, 47, .pointer (some ⟨C, 0, none⟩)), (17, 48, .pointer (some ⟨C, 1, none⟩)), (19, 49, .pointer (some ⟨C, 0, none⟩)), (20, 50, .pointer (some ⟨C, 2, none⟩))]
def growO : List (Nat × Nat) := [(18, 5), (18, 8), (18, 15), (21, 12), (21, 15), (21, 18), (8, 7), (15, 14), (15, 8)]
/-- a one-element row that waits to be appended -/
def Waits (w : World) (C : Nat) (t : Int) (r1 r2 v : Value) : Prop :=
  ∃ g, v = .slice (some ⟨g, 0, none⟩) 1 1 ∧ obj w g = some (.cells #[.int .i64 t] 3 (0, 0)) ∧ g ≠ C ∧ r1.ownBlock ≠ some g ∧ r2.ownBlock ≠ some g
/-- the world's -/
structure GrowW (w0 : World) (base C : Nat) (batch t : Int) (k : Nat) (xs1 xs2 : List Value) (s1 s2 : Value) (d7 d8 d14 d15 d18 d21 : Bool) (t38 t39 t45 t46 : Value) (w : World) : Prop where
  below : Below base w0 w
  bC : base ≤ C
  hb : base ≤ w.heap.size
  hC : obj w C = some (.cells #[.int .i64 batch, if d18 then t39 else s1, if d21 then t46 else s2] 47 (0, 0))
  r1 : w.ownsRow base 3 1 (if d8 then t39 else s1) (if d8 then k + 1 else k) (if d8 then xs1 ++ [.int .i64 t] else xs1)
  r2 : w.ownsRow base 3 1 (if d15 then t46 else s2) (if d15 then k + 1 else k) (if d15 then xs2 ++ [.int .i64 t] else xs2)
  ap : Apart C (if d8 then t39 else s1) (if d15 then t46 else s2)
  b1 : d7 = true → d8 = false → Waits w C t (if d8 then t39 else s1) (if d15 then t46 else s2) t38
  b2 : d14 = true → d15 = false → Waits w C t (if d8 then t39 else s1) (if d15 then t46 else s2) t45
/-- all of it -/
def Grow (w0 : World) (base C : Nat) (batch t : Int) (k : Nat) (xs1 xs2 : List Value) (s1 s2 : Value) (P0 : Nat → Value) (d : Nat → Bool) (T : Nat → Value) (w : World) : Prop :=
  Facts (growL C t s1 s2) d T ∧ Ord growO d ∧ (∀ s, s < 31 ∨ 50 < s → T s = P0 s) ∧ GrowW w0 base C batch t k xs1 xs2 s1 s2 (d 7) (d 8) (d 14) (d 15) (d 18) (d 21) (T 38) (T 39) (T 45) (T 46) w
section
variable {w0 : World} {base C : Nat} {batch t : Int} {k : Nat} {xs1 xs2 : List Value} {s1 s2 : Value} {d7 d8 d14 d15 d18 d21 : Bool} {t38 t39 t45 t46 : Value} {w : World}
theorem Waits.alloc {r1 r2 v : Value} (h : Waits w C t r1 r2 v) (o : Obj) : Waits (w.alloc o) C t r1 r2 v := by
  obtain ⟨g, h1, h2, h3⟩ := h
  exact ⟨g, h1, (obj_alloc_past w o g (lt_of_obj h2)).trans h2, h3⟩
theorem own_lt {v : Value} {n : Nat} {xs : List Value} (h : w.ownsRow base 3 1 v n xs) : v.ownBlock ≠ some w.heap.size := fun e => by have := (h.lt _ e).2; omega
theorem GrowW.build1 (h : GrowW w0 base C batch t k xs1 xs2 s1 s2 d7 d8 d14 d15 d18 d21 t38 t39 t45 t46 w) :
    GrowW w0 base C batch t k xs1 xs2 s1 s2 true d8 d14 d15 d18 d21 (.slice (some ⟨w.heap.size, 0, none⟩) 1 1) t39 t45 t46 (w.alloc (.cells #[.int .i64 t] 3)) := by
  have lC := lt_of_obj h.hC
  refine ⟨h.below.alloc h.hb _, h.bC, Nat.le_trans h.hb (by simp), (obj_alloc_past w _ C lC).trans h.hC, h.r1.alloc _, h.r2.alloc _, h.ap, fun _ _ => ?_, fun e1 e2 => (h.b2 e1 e2).alloc _⟩
  exact ⟨w.heap.size, rfl, obj_alloc_at w _ _ rfl, by omega, own_lt h.r1, own_lt h.r2⟩
theorem GrowW.build2 (h : GrowW w0 base C batch t k xs1 xs2 s1 s2 d7 d8 d14 d15 d18 d21 t38 t39 t45 t46 w) :
    GrowW w0 base C batch t k xs1 xs2 s1 s2 d7 d8 true d15 d18 d21 t38 t39 (.slice (some ⟨w.heap.size, 0, none⟩) 1 1) t46 (w.alloc (.cells #[.int .i64 t] 3)) := by
  have lC := lt_of_obj h.hC
  refine ⟨h.below.alloc h.hb _, h.bC, Nat.le_trans h.hb (by simp), (obj_alloc_past w _ C lC).trans h.hC, h.r1.alloc _, h.r2.alloc _, h.ap, fun e1 e2 => (h.b1 e1 e2).alloc _, fun _ _ => ?_⟩
  exact ⟨w.heap.size, rfl, obj_alloc_at w _ _ rfl, by omega, own_lt h.r1, own_lt h.r2⟩
theorem grown_obj {w' : World} {row : Option Nat} (h : w.grownBy w' row) {g : Nat} (hg : g < w.heap.size) (hne : row ≠ some g) : obj w' g = obj w g := h.block g hg (Ne.symm hne)
theorem GrowW.append1 {w' : World} {g cap : Nat} (h : GrowW w0 base C batch t k xs1 xs2 s1 s2 d7 false d14 false false false t38 t39 t45 t46 w)
    (hown : w'.ownsRow base 3 1 (.slice (some ⟨g, 0, none⟩) (k + 1) cap) (k + 1) (xs1 ++ [.int .i64 t])) (hg : w.grownBy w' s1.ownBlock) (hat : s1.ownBlock = some g ∨ g = w.heap.size) :
    GrowW w0 base C batch t k xs1 xs2 s1 s2 d7 true d14 false false false t38 (.slice (some ⟨g, 0, none⟩) (k + 1) cap) t45 t46 w' := by
  obtain ⟨hbe, hbC, hb, hC, r1, r2, ap, _, b2⟩ := h
  simp only [Bool.false_eq_true, if_false] at hC r1 r2 ap b2
  have lC := lt_of_obj hC
  have hne2 : s2.ownBlock ≠ some g := by
    rcases hat with e | e
    · intro e2
      rcases ap.2.2 with e3 | e3
      · rw [e3] at e; cases e
      · exact e3 (e.trans e2.symm)
    · rw [e]; exact own_lt r2
  refine ⟨hbe.grown hg hb fun j hj => (r1.lt j hj).1, hbC, Nat.le_trans hb hg.size, ?_, hown, ?_, ⟨?_, ap.2.1, Or.inr ?_⟩, fun _ e => (by cases e), fun e1 e2 => ?_⟩
  · simp only [Bool.false_eq_true, if_false]; rw [grown_obj hg lC ap.1]; exact hC
  · refine r2.kept hg ?_
    rcases ap.2.2 with e | e
    · cases h2 : s2.ownBlock with
      | none => exact Or.inl rfl
      | some x => right; rw [e]; simp
    · exact Or.inr (Ne.symm e)
  · intro e
    have e' : g = C := by simpa [Value.ownBlock] using e
    subst e'
    rcases hat with e2 | e2
    · exact ap.1 e2
    · omega
  · intro e; exact hne2 e.symm
  · obtain ⟨g2, w1, w2, w3, w4, w5⟩ := b2 e1 trivial
    have l2 := lt_of_obj w2
    refine ⟨g2, w1, (grown_obj hg l2 w4).trans w2, w3, ?_, w5⟩
    intro e
    have e' : g = g2 := by simpa [Value.ownBlock] using e
    subst e'
    rcases hat with e3 | e3
    · exact w4 e3
    · omega
theorem GrowW.append2 {w' : World} {g cap : Nat} (h : GrowW w0 base C batch t k xs1 xs2 s1 s2 d7 true d14 false false false t38 t39 t45 t46 w)
    (hown : w'.ownsRow base 3 1 (.slice (some ⟨g, 0, none⟩) (k + 1) cap) (k + 1) (xs2 ++ [.int .i64 t])) (hg : w.grownBy w' s2.ownBlock) (hat : s2.ownBlock = some g ∨ g = w.heap.size) :
    GrowW w0 base C batch t k xs1 xs2 s1 s2 d7 true d14 true false false t38 t39 t45 (.slice (some ⟨g, 0, none⟩) (k + 1) cap) w' := by
  obtain ⟨hbe, hbC, hb, hC, r1, r2, ap, b1, _⟩ := h
  simp only [Bool.false_eq_true, if_false, if_true] at hC r1 r2 ap b1
  have lC := lt_of_obj hC
  have hne1 : t39.ownBlock ≠ some g := by
    rcases hat with e | e
    · intro e2
      rcases ap.2.2 with e3 | e3
      · rw [e3] at e2; cases e2
      · exact e3 (e2.trans e.symm)
    · rw [e]; exact own_lt r1
  refine ⟨hbe.grown hg hb fun j hj => (r2.lt j hj).1, hbC, Nat.le_trans hb hg.size, ?_, ?_, hown, ⟨ap.1, ?_, Or.inr hne1⟩, fun _ e => (by cases e), fun _ e => (by cases e)⟩
  · simp only [Bool.false_eq_true, if_false]; rw [grown_obj hg lC ap.2.1]; exact hC
  · refine r1.kept hg ?_
    exact ap.2.2
  · intro e
    have e' : g = C := by simpa [Value.ownBlock] using e
    subst e'
    rcases hat with e2 | e2
    · exact ap.2.1 e2
    · omega
theorem grown_setCell (a : Addr) (v : Value) : w.grownBy (w.setCell a v) (some a.block) :=
  ⟨rfl, rfl, rfl, by simp, fun j _ hne => heap_setCell_other w a j v fun e => hne (by rw [e])⟩
theorem GrowW.store1 (h : GrowW w0 base C batch t k xs1 xs2 s1 s2 d7 true d14 true false false t38 t39 t45 t46 w) :
    GrowW w0 base C batch t k xs1 xs2 s1 s2 d7 true d14 true true false t38 t39 t45 t46 (w.setCell ⟨C, 1, none⟩ t39) := by
  obtain ⟨hbe, hbC, hb, hC, r1, r2, ap, _, _⟩ := h
  simp only [Bool.false_eq_true, if_false, if_true] at hC r1 r2 ap
  refine ⟨hbe.setCell hbC _, hbC, by simpa using hb, ?_, r1.kept (grown_setCell _ _) (Or.inr ap.1), r2.kept (grown_setCell _ _) (Or.inr ap.2.1), ap, fun _ e => (by cases e), fun _ e => (by cases e)⟩
  rw [obj_setCell_eq, hC]; rfl
theorem GrowW.store2 (h : GrowW w0 base C batch t k xs1 xs2 s1 s2 d7 true d14 true true false t38 t39 t45 t46 w) :
    GrowW w0 base C batch t k xs1 xs2 s1 s2 d7 true d14 true true true t38 t39 t45 t46 (w.setCell ⟨C, 2, none⟩ t46) := by
  obtain ⟨hbe, hbC, hb, hC, r1, r2, ap, _, _⟩ := h
  simp only [Bool.false_eq_true, if_false, if_true] at hC r1 r2 ap
  refine ⟨hbe.setCell hbC _, hbC, by simpa using hb, ?_, r1.kept (grown_setCell _ _) (Or.inr ap.1), r2.kept (grown_setCell _ _) (Or.inr ap.2.1), ap, fun _ e => (by cases e), fun _ e => (by cases e)⟩
  rw [obj_setCell_eq, hC]; rfl
end
/-- an operation that reads, and no world's fact speaks of -/
theorem Grow.plain {w0 : World} {base C : Nat} {batch t : Int} {k : Nat} {xs1 xs2 : List Value} {s1 s2 : Value} {T0 : Nat → Value} {d : Nat → Bool} {T : Nat → Value} {w : World}
    (hG : Grow w0 base C batch t k xs1 xs2 s1 s2 T0 d T w) (i s : Nat) (v : Value) (h1 : ∀ x ∈ growL C t s1 s2, if x.1 = i then x.2.1 = s ∧ x.2.2 = v else x.2.1 ≠ s) (h2 : ∀ x ∈ growO, x.1 = i → d x.2 = true)
    (hs : 31 ≤ s ∧ s ≤ 50) (hs2 : s ≠ 38 ∧ s ≠ 39 ∧ s ≠ 45 ∧ s ≠ 46) (hi : i ≠ 7 ∧ i ≠ 8 ∧ i ≠ 14 ∧ i ≠ 15 ∧ i ≠ 18 ∧ i ≠ 21) : Grow w0 base C batch t k xs1 xs2 s1 s2 T0 (also d i) (upd T s v) w := by
  obtain ⟨hF, hO, hT, hW⟩ := hG
  obtain ⟨a1, a2, a3, a4⟩ := hs2
  obtain ⟨b1, b2, b3, b4, b5, b6⟩ := hi
  refine ⟨hF.step i s v h1, hO.step i h2, fun j hj => ?_, ?_⟩
  · unfold upd; rw [if_neg (by omega)]; exact hT j hj
  · unfold also upd
    rw [if_neg (Ne.symm a1), if_neg (Ne.symm a2), if_neg (Ne.symm a3), if_neg (Ne.symm a4), if_neg (Ne.symm b1), if_neg (Ne.symm b2), if_neg (Ne.symm b3), if_neg (Ne.symm b4), if_neg (Ne.symm b5), if_neg (Ne.symm b6)]
    exact hW

theorem take_next {l : List Int} {n k : Nat} {v : Int} (hn : n = l.length) (hk : k < n) (hv : l.getD k 0 = v) :
    ints ((l.map clampK).take (k + 1)) = ints ((l.map clampK).take k) ++ [.int .i64 (min (max v 0) 1099511627776)] ∧ ((l.map clampK).take (k + 1)).length = k + 1 := by
  have h1 : (l.map clampK)[k]? = some (min (max v 0) 1099511627776) := by
    rw [List.getElem?_map]
    have h2 : l[k]? = some v := by
      rw [List.getD_eq_getElem?_getD, List.getElem?_eq_getElem (by omega)] at hv
      rw [List.getElem?_eq_getElem (by omega)]
      simpa using hv
    rw [h2]; rfl
  constructor
  · rw [List.take_add_one, h1]; simp [ints]
  · simp; omega
theorem info3 : (Try.prog.info? 3).map (fun i => (i.zero, i.size, i.bytes)) = some (some (.int .i64 0), 1, 8) := by kernel_rfl

set_option maxHeartbeats 3200000 in
theorem new_any (batch : Int) (l : List Int) (b off n cap : Nat) (w : World) (hn : n = l.length) (h16 : n ≤ 16) (hb1 : 1 ≤ batch) (hb2 : batch ≤ 100) (hc : ∀ j, j < n → cellAt (obj w b) (off + j) = some (.int .i64 (l.getD j 0))) :
    Calls Try.prog 18 #[.int .i64 batch, .slice (some ⟨b, off, none⟩) n cap] w fun e w' => ∃ C, e = .returned (.pointer (some ⟨C, 0, none⟩)) ∧ CountAt w' w.heap.size C batch (l.map clampK) (l.map clampK) ∧ Below w.heap.size w w' := by
  have d1 : decide (batch < 1) = false := decide_eq_false (by omega)
  have d2 : decide (100 < batch) = false := decide_eq_false (by omega)
  have d3 : decide (16 < (n : Int)) = false := decide_eq_false (by omega)
  have HC := Lib.hid hc
  have HN := Lib.hid hn
  clear hc hn
  go_enter Try.func18, Try.ntmps18
  go_wp2
  go_loopw [24] (fun i wr => ∃ k : Nat, k ≤ n ∧ i = .int .i64 k ∧ CountAt wr w.heap.size w.heap.size batch ((l.map clampK).take k) ((l.map clampK).take k) ∧ Below w.heap.size w wr) (fun i _ => n - (intOf i).toNat)
  case atStart =>
    exact ⟨0, by omega, rfl, ⟨.slice none 0 0, .slice none 0 0, Nat.le_refl _, by first | exact newA w _ | simp [go_sem], World.ownsRow_nil _ _ _ _, World.ownsRow_nil _ _ _ _, ⟨by simp [Value.ownBlock], by simp [Value.ownBlock], Or.inl rfl⟩, fun _ => rfl⟩, (Below.refl _ _).alloc (Nat.le_refl _) _⟩
  case round =>
    obtain ⟨k, hk, rfl, hC, hB⟩ := hrel
    have HB := Lib.hid hB
    have HCo := Lib.hid hC
    clear hB hC
    by_cases hlt : k < n
    · have hltz : (k : Int) < (n : Int) := by omega
      have HK : Hid (k < 16) := Lib.hid (by omega)
      have cK : cellAt (obj wr b) (off + k) = some (.int .i64 (l.getD k 0)) := by
        have h := HC.out k hlt
        obtain ⟨o, ho⟩ : ∃ o, obj w b = some o := by
          cases h2 : obj w b with
          | none => rw [h2] at h; simp [cellAt] at h
          | some o => exact ⟨o, rfl⟩
        rw [keep HB.out ho, ← ho]; exact h
      generalize hv : l.getD k 0 = v at cK
      have HV := Lib.hid hv
      clear hv
      obtain ⟨s1, s2, hb, hCo, hr1, hr2, hap, _⟩ := HCo.out
      clear HCo
      have hb' := Lib.hid hb
      have hCo' := Lib.hid hCo
      have hr1' := Lib.hid hr1
      have hr2' := Lib.hid hr2
      have hap' := Lib.hid hap
      clear hb hCo hr1 hr2 hap
      have LEN : ((l.map clampK).take k).length = k := by have := HN.out; simp; omega
      have LEN := Lib.hid LEN
      go_wp2
      refine wp_region_slots 53 (fun T0 d T w' => Grow wr w.heap.size w.heap.size batch (min (max v 0) 1099511627776) k (ints ((l.map clampK).take k)) (ints ((l.map clampK).take k)) s1 s2 T0 d T w' ∧ T0 5 = .pointer (some ⟨w.heap.size, 0, none⟩) ∧ T0 7 = .int .i64 (min (max v 0) 1099511627776))
        (by kernel_rfl) (by kernel_rfl) rfl rfl ?_ ?_ ?_
      · refine ⟨⟨Facts.start (by simp [growL]), Ord.start (by simp [growO]), fun _ _ => rfl, ?_⟩, rfl, rfl⟩
        refine ⟨(Below.refl _ _).drew, Nat.le_refl _, ?_, ?_, ?_, ?_, ?_, fun e => (by cases e), fun e => (by cases e)⟩
        · exact HB.out.size
        · exact hCo'.out
        · have h := hr1'.out.drew
          rw [LEN.out] at h
          exact h
        · have h := hr2'.out.drew
          rw [LEN.out] at h
          exact h
        · exact hap'.out
      · intro T0
        refine ⟨?_, ?_, ?_, ?_, ?_, ?_, ?_, ?_, ?_, ?_, ?_, ?_, ?_, ?_, ?_, ?_, ?_, ?_, ?_, ?_, ?_, ?_, trivial⟩
        · refine keeps_of' rfl ?_
          rintro d T w1 hd ha ⟨hG, h5, h7⟩ K hK
          have e := (hG.2.2.1 5 (Or.inl (by decide))).trans h5
          go_simp
          exact hK _ _ ⟨hG.plain 0 31 _ (by simp [growL]) (by simp [growO]) (by decide) (by decide) (by decide), h5, h7⟩
        · refine keeps_of' rfl ?_
          rintro d T w1 hd ha ⟨hG, h5, h7⟩ K hK
          have e := (hG.2.2.1 5 (Or.inl (by decide))).trans h5
          go_simp
          exact hK _ _ ⟨hG.plain 1 32 _ (by simp [growL]) (by simp [growO]) (by decide) (by decide) (by decide), h5, h7⟩
        · refine keeps_of' rfl ?_
          rintro d T w1 hd ha ⟨hG, h5, h7⟩ K hK
          have e := (hG.2.2.1 5 (Or.inl (by decide))).trans h5
          go_simp
          exact hK _ _ ⟨hG.plain 2 33 _ (by simp [growL]) (by simp [growO]) (by decide) (by decide) (by decide), h5, h7⟩
        · refine keeps_of' rfl ?_
          rintro d T w1 hd ha ⟨hG, h5, h7⟩ K hK
          have e := hG.1 (2, 33, .pointer (some ⟨w.heap.size, 0, none⟩)) (by simp [growL]) (ha 2 (by decide))
          simp only at e
          go_simp
          exact hK _ _ ⟨hG.plain 3 34 _ (by simp [growL]) (by simp [growO]) (by decide) (by decide) (by decide), h5, h7⟩
        · refine keeps_of' rfl ?_
          rintro d T w1 hd ha ⟨hG, h5, h7⟩ K hK
          have e := hG.1 (3, 34, .pointer (some ⟨w.heap.size, 0, none⟩)) (by simp [growL]) (ha 3 (by decide))
          simp only at e
          go_simp
          exact hK _ _ ⟨hG.plain 4 35 _ (by simp [growL]) (by simp [growO]) (by decide) (by decide) (by decide), h5, h7⟩
        · refine keeps_of' rfl ?_
          rintro d T w1 hd ha ⟨hG, h5, h7⟩ K hK
          have e := hG.1 (4, 35, .pointer (some ⟨w.heap.size, 1, none⟩)) (by simp [growL]) (ha 4 (by decide))
          simp only at e
          have o18 := hG.2.1.not (x := 18) (y := 5) (by simp [growO]) hd
          have hC := hG.2.2.2.hC
          rw [o18] at hC
          simp only [Bool.false_eq_true, if_false] at hC
          go_simp
          exact hK _ _ ⟨hG.plain 5 36 _ (by simp [growL]) (by simp [growO]) (by decide) (by decide) (by decide), h5, h7⟩
        · refine keeps_of' rfl ?_
          rintro d T w1 hd ha ⟨hG, h5, h7⟩ K hK
          have e := (hG.2.2.1 7 (Or.inl (by decide))).trans h7
          go_simp
          exact hK _ _ ⟨hG.plain 6 37 _ (by simp [growL]) (by simp [growO]) (by decide) (by decide) (by decide), h5, h7⟩
        · refine keeps_of' rfl ?_
          rintro d T w1 hd ha ⟨⟨hF, hO, hT, hW⟩, h5, h7⟩ K hK
          have e := hF (6, 37, .int .i64 (min (max v 0) 1099511627776)) (by simp [growL]) (ha 6 (by decide))
          simp only at e
          go_simp
          exact hK _ _ ⟨⟨hF.step 7 38 _ (by simp [growL]), hO.step 7 (by simp [growO]), fun j hj => by unfold upd; rw [if_neg (by omega)]; exact hT j hj, hW.build1⟩, h5, h7⟩
        · refine keeps_of' rfl ?_
          rintro d T w1 hd ha ⟨⟨hF, hO, hT, hW⟩, h5, h7⟩ K hK
          have e1 := hF (5, 36, s1) (by simp [growL]) (ha 5 (by decide))
          simp only at e1
          have o7 := ha 7 (by decide)
          have o18 := hO.not (x := 18) (y := 8) (by simp [growO]) hd
          have o15 := hO.not (x := 15) (y := 8) (by simp [growO]) hd
          have o21 := hO.not (x := 21) (y := 15) (by simp [growO]) o15
          rw [hd, o15, o18, o21] at hW
          obtain ⟨g, g1, g2, _⟩ := hW.b1 o7 rfl
          have hrow := hW.r1
          simp only [Bool.false_eq_true, if_false] at hrow
          obtain ⟨i0, hi0, hz0, hz1, hz2⟩ := info_parts info3
          refine wp_append_lies w1 (.tmp 36) (.tmp 38) 34 (by rfl) w.heap.size 3 i0 _ 1 8 Try.underlying34 hi0 hz0 hz1 hz2 rfl (by omega) s1 k _ ((actOf_eval 53 T 36 (by decide)).trans e1) hrow ⟨g, 0, none⟩ 1 1 [.int .i64 (min (max v 0) 1099511627776)]
            ((actOf_eval 53 T 38 (by decide)).trans g1) (by rfl) (World.news_of_block (cs := #[.int .i64 (min (max v 0) 1099511627776)]) (t := 3) (fr := (0, 0)) g2) (by simp [Value.oneCell']) (by omega) (by have := HK.out; unfold maxLen; omega) (by have := HK.out; omega) hW.hb w1.heap.size rfl ?_
          intro gg cp w2 hown hgrow hat _
          rw [actOf_put 53 T 39 _ (by decide)]
          refine hK _ _ ⟨⟨hF.step 8 39 _ (by simp [growL]), hO.step 8 (by simp [growO, o7]), fun j hj => by unfold upd; rw [if_neg (by omega)]; exact hT j hj, ?_⟩, h5, h7⟩
          have hW2 := hW.append1 hown hgrow hat
          show GrowW _ _ _ _ _ _ _ _ _ _ (d 7) true (d 14) (d 15) (d 18) (d 21) (T 38) _ (T 45) (T 46) w2
          rw [o15, o18, o21]
          exact hW2
        · refine keeps_of' rfl ?_
          rintro d T w1 hd ha ⟨hG, h5, h7⟩ K hK
          have e := (hG.2.2.1 5 (Or.inl (by decide))).trans h5
          go_simp
          exact hK _ _ ⟨hG.plain 9 40 _ (by simp [growL]) (by simp [growO]) (by decide) (by decide) (by decide), h5, h7⟩
        · refine keeps_of' rfl ?_
          rintro d T w1 hd ha ⟨hG, h5, h7⟩ K hK
          have e := hG.1 (9, 40, .pointer (some ⟨w.heap.size, 0, none⟩)) (by simp [growL]) (ha 9 (by decide))
          simp only at e
          go_simp
          exact hK _ _ ⟨hG.plain 10 41 _ (by simp [growL]) (by simp [growO]) (by decide) (by decide) (by decide), h5, h7⟩
        · refine keeps_of' rfl ?_
          rintro d T w1 hd ha ⟨hG, h5, h7⟩ K hK
          have e := hG.1 (10, 41, .pointer (some ⟨w.heap.size, 0, none⟩)) (by simp [growL]) (ha 10 (by decide))
          simp only at e
          go_simp
          exact hK _ _ ⟨hG.plain 11 42 _ (by simp [growL]) (by simp [growO]) (by decide) (by decide) (by decide), h5, h7⟩
        · refine keeps_of' rfl ?_
          rintro d T w1 hd ha ⟨hG, h5, h7⟩ K hK
          have e := hG.1 (11, 42, .pointer (some ⟨w.heap.size, 2, none⟩)) (by simp [growL]) (ha 11 (by decide))
          simp only at e
          have o21 := hG.2.1.not (x := 21) (y := 12) (by simp [growO]) hd
          have hC := hG.2.2.2.hC
          rw [o21] at hC
          simp only [Bool.false_eq_true, if_false] at hC
          go_simp
          exact hK _ _ ⟨hG.plain 12 43 _ (by simp [growL]) (by simp [growO]) (by decide) (by decide) (by decide), h5, h7⟩
        · refine keeps_of' rfl ?_
          rintro d T w1 hd ha ⟨hG, h5, h7⟩ K hK
          have e := (hG.2.2.1 7 (Or.inl (by decide))).trans h7
          go_simp
          exact hK _ _ ⟨hG.plain 13 44 _ (by simp [growL]) (by simp [growO]) (by decide) (by decide) (by decide), h5, h7⟩
        · refine keeps_of' rfl ?_
          rintro d T w1 hd ha ⟨⟨hF, hO, hT, hW⟩, h5, h7⟩ K hK
          have e := hF (13, 44, .int .i64 (min (max v 0) 1099511627776)) (by simp [growL]) (ha 13 (by decide))
          simp only at e
          go_simp
          exact hK _ _ ⟨⟨hF.step 14 45 _ (by simp [growL]), hO.step 14 (by simp [growO]), fun j hj => by unfold upd; rw [if_neg (by omega)]; exact hT j hj, hW.build2⟩, h5, h7⟩
        · refine keeps_of' rfl ?_
          rintro d T w1 hd ha ⟨⟨hF, hO, hT, hW⟩, h5, h7⟩ K hK
          have e1 := hF (12, 43, s2) (by simp [growL]) (ha 12 (by decide))
          simp only at e1
          have o7 := ha 14 (by decide)
          have o18 := hO.not (x := 18) (y := 15) (by simp [growO]) hd
          have o21 := hO.not (x := 21) (y := 15) (by simp [growO]) hd
          have o8 := ha 8 (by decide)
          rw [hd, o8, o18, o21] at hW
          obtain ⟨g, g1, g2, _⟩ := hW.b2 o7 rfl
          have hrow := hW.r2
          simp only [Bool.false_eq_true, if_false] at hrow
          obtain ⟨i0, hi0, hz0, hz1, hz2⟩ := info_parts info3
          refine wp_append_lies w1 (.tmp 43) (.tmp 45) 34 (by rfl) w.heap.size 3 i0 _ 1 8 Try.underlying34 hi0 hz0 hz1 hz2 rfl (by omega) s2 k _ ((actOf_eval 53 T 43 (by decide)).trans e1) hrow ⟨g, 0, none⟩ 1 1 [.int .i64 (min (max v 0) 1099511627776)]
            ((actOf_eval 53 T 45 (by decide)).trans g1) (by rfl) (World.news_of_block (cs := #[.int .i64 (min (max v 0) 1099511627776)]) (t := 3) (fr := (0, 0)) g2) (by simp [Value.oneCell']) (by omega) (by have := HK.out; unfold maxLen; omega) (by have := HK.out; omega) hW.hb w1.heap.size rfl ?_
          intro gg cp w2 hown hgrow hat _
          rw [actOf_put 53 T 46 _ (by decide)]
          refine hK _ _ ⟨⟨hF.step 15 46 _ (by simp [growL]), hO.step 15 (by simp [growO, o7, o8]), fun j hj => by unfold upd; rw [if_neg (by omega)]; exact hT j hj, ?_⟩, h5, h7⟩
          have hW2 := hW.append2 hown hgrow hat
          show GrowW _ _ _ _ _ _ _ _ _ _ (d 7) (d 8) (d 14) true (d 18) (d 21) (T 38) (T 39) (T 45) _ w2
          rw [o8, o18, o21]
          exact hW2
        · refine keeps_of' rfl ?_
          rintro d T w1 hd ha ⟨hG, h5, h7⟩ K hK
          have e := hG.1 (0, 31, .pointer (some ⟨w.heap.size, 0, none⟩)) (by simp [growL]) (ha 0 (by decide))
          simp only at e
          go_simp
          exact hK _ _ ⟨hG.plain 16 47 _ (by simp [growL]) (by simp [growO]) (by decide) (by decide) (by decide), h5, h7⟩
        · refine keeps_of' rfl ?_
          rintro d T w1 hd ha ⟨hG, h5, h7⟩ K hK
          have e := hG.1 (16, 47, .pointer (some ⟨w.heap.size, 0, none⟩)) (by simp [growL]) (ha 16 (by decide))
          simp only at e
          go_simp
          exact hK _ _ ⟨hG.plain 17 48 _ (by simp [growL]) (by simp [growO]) (by decide) (by decide) (by decide), h5, h7⟩
        · refine keeps_of' rfl ?_
          rintro d T w1 hd ha ⟨⟨hF, hO, hT, hW⟩, h5, h7⟩ K hK
          have e1 := hF (17, 48, .pointer (some ⟨w.heap.size, 1, none⟩)) (by simp [growL]) (ha 17 (by decide))
          simp only at e1
          have o8 := ha 8 (by decide)
          have o15 := ha 15 (by decide)
          have o5 := ha 5 (by decide)
          have o21 := hO.not (x := 21) (y := 18) (by simp [growO]) hd
          rw [hd, o8, o15, o21] at hW
          have hC := hW.hC
          have hrow := hW.r1
          simp only [if_true, Bool.false_eq_true, if_false] at hC hrow
          obtain ⟨gg, cp, ev, _, _⟩ := hrow.form (by omega)
          go_simp
          refine hK _ _ ⟨⟨hF.run 18 (by simp [growL]), hO.step 18 (by simp [growO, o8, o15, o5]), hT, ?_⟩, h5, h7⟩
          have hW2 := hW.store1
          show GrowW _ _ _ _ _ _ _ _ _ _ (d 7) (d 8) (d 14) (d 15) true (d 21) (T 38) (T 39) (T 45) (T 46) _
          rw [o8, o15, o21, ← ev]
          exact hW2
        · refine keeps_of' rfl ?_
          rintro d T w1 hd ha ⟨hG, h5, h7⟩ K hK
          have e := hG.1 (1, 32, .pointer (some ⟨w.heap.size, 0, none⟩)) (by simp [growL]) (ha 1 (by decide))
          simp only at e
          go_simp
          exact hK _ _ ⟨hG.plain 19 49 _ (by simp [growL]) (by simp [growO]) (by decide) (by decide) (by decide), h5, h7⟩
        · refine keeps_of' rfl ?_
          rintro d T w1 hd ha ⟨hG, h5, h7⟩ K hK
          have e := hG.1 (19, 49, .pointer (some ⟨w.heap.size, 0, none⟩)) (by simp [growL]) (ha 19 (by decide))
          simp only at e
          go_simp
          exact hK _ _ ⟨hG.plain 20 50 _ (by simp [growL]) (by simp [growO]) (by decide) (by decide) (by decide), h5, h7⟩
        · refine keeps_of' rfl ?_
          rintro d T w1 hd ha ⟨⟨hF, hO, hT, hW⟩, h5, h7⟩ K hK
          have e1 := hF (20, 50, .pointer (some ⟨w.heap.size, 2, none⟩)) (by simp [growL]) (ha 20 (by decide))
          simp only at e1
          have o8 := ha 8 (by decide)
          have o15 := ha 15 (by decide)
          have o12 := ha 12 (by decide)
          have o18 := ha 18 (by decide)
          rw [hd, o8, o15, o18] at hW
          have hC := hW.hC
          have hrow := hW.r2
          simp only [if_true, Bool.false_eq_true, if_false] at hC hrow
          obtain ⟨gg, cp, ev, _, _⟩ := hrow.form (by omega)
          go_simp
          refine hK _ _ ⟨⟨hF.run 21 (by simp [growL]), hO.step 21 (by simp [growO, o15, o12, o18]), hT, ?_⟩, h5, h7⟩
          have hW2 := hW.store2
          show GrowW _ _ _ _ _ _ _ _ _ _ (d 7) (d 8) (d 14) (d 15) (d 18) true (T 38) (T 39) (T 45) (T 46) _
          rw [o8, o15, o18, ← ev]
          exact hW2
      · rintro T w2 ⟨⟨_, _, hT, hW⟩, _, _⟩
        have e : actOf 53 T = ⟨#[T 0, T 1, T 2, T 3, T 4, T 5, T 6, T 7, T 8, T 9, T 10, T 11, T 12, T 13, T 14, T 15, T 16, T 17, T 18, T 19, T 20, T 21, T 22, T 23, T 24, T 25, T 26, T 27, T 28, T 29, T 30, T 31, T 32, T 33, T 34, T 35, T 36, T 37, T 38, T 39, T 40, T 41, T 42, T 43, T 44, T 45, T 46, T 47, T 48, T 49, T 50, T 51, T 52], []⟩ := rfl
        rw [e]
        have t0 : T 0 = .int .i64 batch := hT 0 (Or.inl (by decide))
        have t1 : T 1 = .slice (some ⟨b, off, none⟩) n cap := hT 1 (Or.inl (by decide))
        have t2 : T 2 = undef := hT 2 (Or.inl (by decide))
        have t3 : T 3 = undef := hT 3 (Or.inl (by decide))
        have t4 : T 4 = .pointer none := hT 4 (Or.inl (by decide))
        have t5 : T 5 = .pointer (some ⟨w.heap.size, 0, none⟩) := hT 5 (Or.inl (by decide))
        have t6 : T 6 = undef := hT 6 (Or.inl (by decide))
        have t7 : T 7 = .int .i64 (min (max v 0) 1099511627776) := hT 7 (Or.inl (by decide))
        have t8 : T 8 = .int .i64 batch := hT 8 (Or.inl (by decide))
        have t9 : T 9 = .bool false := hT 9 (Or.inl (by decide))
        have t10 : T 10 = .bool false := hT 10 (Or.inl (by decide))
        have t11 : T 11 = .int .i64 batch := hT 11 (Or.inl (by decide))
        have t12 : T 12 = .bool false := hT 12 (Or.inl (by decide))
        have t13 : T 13 = .bool false := hT 13 (Or.inl (by decide))
        have t14 : T 14 = .bool false := hT 14 (Or.inl (by decide))
        have t15 : T 15 = .slice (some ⟨b, off, none⟩) n cap := hT 15 (Or.inl (by decide))
        have t16 : T 16 = .int .i64 n := hT 16 (Or.inl (by decide))
        have t17 : T 17 = .bool false := hT 17 (Or.inl (by decide))
        have t18 : T 18 = .bool false := hT 18 (Or.inl (by decide))
        have t19 : T 19 = .int .i64 batch := hT 19 (Or.inl (by decide))
        have t20 : T 20 = .agg #[.int .i64 batch, .slice none 0 0, .slice none 0 0] := hT 20 (Or.inl (by decide))
        have t21 : T 21 = .pointer (some ⟨w.heap.size, 0, none⟩) := hT 21 (Or.inl (by decide))
        have t22 : T 22 = .slice (some ⟨b, off, none⟩) n cap := hT 22 (Or.inl (by decide))
        have t23 : T 23 = .int .i64 n := hT 23 (Or.inl (by decide))
        have t24 : T 24 = .int .i64 k := hT 24 (Or.inl (by decide))
        have t25 : T 25 = .bool true := hT 25 (Or.inl (by decide))
        have t26 : T 26 = .pointer (some ⟨b, off + k, none⟩) := hT 26 (Or.inl (by decide))
        have t27 : T 27 = .int .i64 v := hT 27 (Or.inl (by decide))
        have t28 : T 28 = .int .i64 v := hT 28 (Or.inl (by decide))
        have t29 : T 29 = .int .i64 (max v 0) := hT 29 (Or.inl (by decide))
        have t30 : T 30 = .int .i64 (min (max v 0) 1099511627776) := hT 30 (Or.inl (by decide))
        rw [t0, t1, t2, t3, t4, t5, t6, t7, t8, t9, t10, t11, t12, t13, t14, t15, t16, t17, t18, t19, t20, t21, t22, t23, t24, t25, t26, t27, t28, t29, t30]
        clear t0 t1 t2 t3 t4 t5 t6 t7 t8 t9 t10 t11 t12 t13 t14 t15 t16 t17 t18 t19 t20 t21 t22 t23 t24 t25 t26 t27 t28 t29 t30
        have t52 : T 52 = undef := hT 52 (Or.inr (by decide))
        clear hT
        have hW' := Lib.hid hW
        clear hW
        go_wp2
        obtain ⟨gbe, gbC, gb, gC, gr1, gr2, gap, _, _⟩ := hW'.out
        simp only [if_true] at gC gr1 gr2 gap
        have hnext := take_next HN.out hlt HV.out
        refine ⟨⟨k + 1, by omega, by simp, ⟨T 39, T 46, Nat.le_refl _, gC, ?_, ?_, gap, fun h => (by rw [hnext.2] at h; omega)⟩, HB.out.trans gbe⟩, by simp only [intOf]; omega⟩
        · rw [hnext.2, hnext.1]; exact gr1
        · rw [hnext.2, hnext.1]; exact gr2
    · have hk' : k = n := by omega
      have hltz : ¬ (k : Int) < (n : Int) := by omega
      subst hk'
      go_wp2
      go_ret
      refine ⟨w.heap.size, rfl, ?_, HB.out⟩
      have h := HCo.out
      rw [List.take_of_length_le (by have := HN.out; simp; omega)] at h
      exact h
end Go.Proofs.Ytommjfmglfjgjaa
