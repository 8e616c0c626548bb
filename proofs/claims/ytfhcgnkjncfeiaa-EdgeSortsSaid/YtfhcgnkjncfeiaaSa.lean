/- Rows of numbers that are sorted in place: swaps; slices.swapRangeCmpFunc, insertionSortCmpFunc. -/
import Derived.Test.YtfhcgnkjncfeiaaGs
namespace Go.Proofs.Ytfhcgnkjncfeiaa
open Go.ChangeShapes Go.WideShapes Go.RowKit Fl

/-- a row of n numbers lies in block g; nothing below base has turned -/
structure RowG (w w0 : World) (base g n : Nat) (R : Nat → Nat) : Prop where
  c : ∃ c : Array Value, obj w g = some (.cells c 25 (0, 0)) ∧ ∀ j, j < n → nth c j = some (.float .f64 (R j))
  hb : Below base w0 w
  hg : base ≤ g
theorem nth_setF {c : Array Value} {p : Nat} {a : Value} (h : p < c.size) {i : Nat} : nth (c.setIfInBounds p a) i = if i = p then some a else nth c i := by
  unfold nth
  by_cases e : i = p
  · subst e; rw [if_pos rfl, Array.getElem?_setIfInBounds_self_of_lt h]
  · rw [if_neg e, Array.getElem?_setIfInBounds_ne (Ne.symm e)]
/-- two of a row swapped -/
def swp (R : Nat → Nat) (i j : Nat) : Nat → Nat := fun x => if x = j then R i else if x = i then R j else R x
section
variable {w w0 : World} {base g n : Nat} {R : Nat → Nat}
theorem RowG.drewN (h : RowG w w0 base g n R) (k : Nat) : RowG (w.drewN k) w0 base g n R := ⟨h.c, ⟨h.hb.os, h.hb.tape, h.hb.output, h.hb.size, h.hb.block⟩, h.hg⟩
theorem RowG.drew (h : RowG w w0 base g n R) : RowG w.drew w0 base g n R := ⟨h.c, ⟨h.hb.os, h.hb.tape, h.hb.output, h.hb.size, h.hb.block⟩, h.hg⟩
theorem RowG.cell (h : RowG w w0 base g n R) (j : Nat) (hj : j < n) : cellAt (obj w g) j = some (.float .f64 (R j)) ∧ iceAt (obj w g) j = false := by
  obtain ⟨c, h1, h2⟩ := h.c
  rw [h1]; exact ⟨h2 j hj, iceAt_some ..⟩
theorem RowG.cell_map (h : RowG w w0 base g n R) (i j : Nat) (hij : i ≠ j) (hj : j < n) (v : Value) : cellAt ((obj w g).map (setAt i v)) j = some (.float .f64 (R j)) ∧ iceAt ((obj w g).map (setAt i v)) j = false := by
  obtain ⟨c, h1, h2⟩ := h.c
  rw [h1]
  refine ⟨?_, iceAt_some ..⟩
  show nth (c.setIfInBounds i v) j = _
  unfold nth
  rw [Array.getElem?_setIfInBounds_ne hij]
  exact h2 j hj
theorem RowG.set (h : RowG w w0 base g n R) (j : Nat) (hj : j < n) (a : Nat) : RowG (w.setCell ⟨g, j, none⟩ (.float .f64 a)) w0 base g n (fun x => if x = j then a else R x) := by
  obtain ⟨c, h1, h2⟩ := h.c
  have hs : j < c.size := by
    have := h2 j hj
    unfold nth at this
    exact (Array.getElem?_eq_some_iff.1 this).1
  refine ⟨⟨c.setIfInBounds j (.float .f64 a), by rw [obj_setCell_eq, h1]; rfl, fun x hx => ?_⟩, Below.setCell h.hb h.hg _, h.hg⟩
  rw [nth_setF hs]
  by_cases e : x = j
  · rw [if_pos e, if_pos e]
  · rw [if_neg e, if_neg e]; exact h2 x hx
theorem RowG.swap (h : RowG w w0 base g n R) (i j : Nat) (hi : i < n) (hj : j < n) : RowG ((w.setCell ⟨g, i, none⟩ (.float .f64 (R j))).setCell ⟨g, j, none⟩ (.float .f64 (R i))) w0 base g n (swp R i j) :=
  (h.set i hi (R j)).set j hj (R i)
end
/-- the same numbers, moved about between a and b -/
def Seg (a b n : Nat) (R R' : Nat → Nat) : Prop := (∀ x, x < a ∨ b ≤ x → R' x = R x) ∧ (first R' n).Perm (first R n) ∧ ∀ P : Nat → Prop, (∀ x, a ≤ x → x < b → P (R x)) → ∀ x, a ≤ x → x < b → P (R' x)
theorem Seg.refl (a b n : Nat) (R : Nat → Nat) : Seg a b n R R := ⟨fun _ _ => rfl, List.Perm.refl _, fun _ h => h⟩
theorem Seg.trans {a b n : Nat} {R R' R'' : Nat → Nat} (h : Seg a b n R R') (h' : Seg a b n R' R'') : Seg a b n R R'' :=
  ⟨fun x hx => (h'.1 x hx).trans (h.1 x hx), h'.2.1.trans h.2.1, fun P hP => h'.2.2 P (h.2.2 P hP)⟩
theorem Seg.mono {a b a' b' n : Nat} {R R' : Nat → Nat} (h : Seg a b n R R') (ha : a' ≤ a) (hb : b ≤ b') : Seg a' b' n R R' := by
  refine ⟨fun x hx => h.1 x (by omega), h.2.1, fun P hP x h1 h2 => ?_⟩
  by_cases hx : a ≤ x ∧ x < b
  · exact h.2.2 P (fun y hy1 hy2 => hP y (by omega) (by omega)) x hx.1 hx.2
  · rw [h.1 x (by omega)]; exact hP x h1 h2
theorem first_get (R : Nat → Nat) (n i : Nat) (h : i < n) : (first R n)[i]? = some (R i) := by unfold first; simp [h]
theorem first_len (R : Nat → Nat) (n : Nat) : (first R n).length = n := by unfold first; simp
theorem swp_perm (R : Nat → Nat) (n i j : Nat) (hi : i < n) (hj : j < n) : (first (swp R i j) n).Perm (first R n) := by
  have li : i < (first R n).length := by rw [first_len]; exact hi
  have lj : j < (first R n).length := by rw [first_len]; exact hj
  have h := List.set_set_perm li lj
  have e : first (swp R i j) n = ((first R n).set i (first R n)[j]).set j (first R n)[i] := by
    have g1 : (first R n)[j] = R j := by
      have := first_get R n j hj
      rw [List.getElem?_eq_getElem lj] at this; exact Option.some.inj this
    have g2 : (first R n)[i] = R i := by
      have := first_get R n i hi
      rw [List.getElem?_eq_getElem li] at this; exact Option.some.inj this
    rw [g1, g2]
    apply List.ext_getElem?
    intro x
    by_cases hx : x < n
    · rw [first_get _ _ _ hx, List.getElem?_set, List.getElem?_set]
      unfold swp
      by_cases e1 : x = j
      · subst e1; simp [first_len, hx]
      · rw [if_neg e1, if_neg (Ne.symm e1)]
        by_cases e2 : x = i
        · subst e2; simp [first_len, hx]
        · rw [if_neg e2, if_neg (Ne.symm e2), first_get _ _ _ hx]
    · rw [List.getElem?_eq_none (by rw [first_len]; omega), List.getElem?_eq_none (by simp [first_len]; omega)]
  rw [e]; exact h
theorem Seg.swap {a b n : Nat} (R : Nat → Nat) (i j : Nat) (hi : a ≤ i ∧ i < b) (hj : a ≤ j ∧ j < b) (hb : b ≤ n) : Seg a b n R (swp R i j) := by
  refine ⟨fun x hx => ?_, swp_perm R n i j (by omega) (by omega), fun P hP x h1 h2 => ?_⟩
  · unfold swp; rw [if_neg (by omega), if_neg (by omega)]
  · unfold swp
    split
    · exact hP i hi.1 hi.2
    · split
      · exact hP j hj.1 hj.2
      · exact hP x h1 h2
/-- two ranges swapped -/
def swr (R : Nat → Nat) (a b k : Nat) : Nat → Nat := fun x => if a ≤ x ∧ x < a + k then R (x + (b - a)) else if b ≤ x ∧ x < b + k then R (x - (b - a)) else R x
theorem swr_zero (R : Nat → Nat) (a b : Nat) : swr R a b 0 = R := by
  funext x; unfold swr; rw [if_neg (by omega), if_neg (by omega)]
theorem swr_step (R : Nat → Nat) (a b i : Nat) (h : a + i < b) : swp (swr R a b i) (a + i) (b + i) = swr R a b (i + 1) := by
  funext x
  have e1 : swr R a b i (a + i) = R (a + i) := by unfold swr; rw [if_neg (by omega), if_neg (by omega)]
  have e2 : swr R a b i (b + i) = R (b + i) := by unfold swr; rw [if_neg (by omega), if_neg (by omega)]
  unfold swp
  rw [e1, e2]
  by_cases h1 : x = b + i
  · subst h1
    rw [if_pos rfl]; unfold swr
    rw [if_neg (by omega), if_pos (by omega)]; congr 1; omega
  · rw [if_neg h1]
    by_cases h2 : x = a + i
    · subst h2
      rw [if_pos rfl]; unfold swr
      rw [if_pos (by omega)]; congr 1; omega
    · rw [if_neg h2]; unfold swr
      (repeat' split) <;> first | rfl | omega

set_option maxRecDepth 100000 in
set_option maxHeartbeats 3200000 in
theorem swapRange_any {w w0 : World} {base g n : Nat} {R : Nat → Nat} (h : RowG w w0 base g n R) (cap a b k : Nat) (fv : Value) (hab : a + k ≤ b) (hbn : b + k ≤ n) (hn : n ≤ 100000) :
    Calls Try.prog 94 #[.slice (some ⟨g, 0, none⟩) n cap, .int .i64 a, .int .i64 b, .int .i64 k, fv] w fun e w' => e = .returned (.tuple #[]) ∧ RowG w' w0 base g n (swr R a b k) ∧ Seg a (b + k) n R (swr R a b k) := by
  have H := Lib.hid h
  have HH := Lib.hid (show a + k ≤ b ∧ b + k ≤ n ∧ n ≤ 100000 from ⟨hab, hbn, hn⟩)
  clear h hab hbn hn
  go_enter Try.func94, Try.ntmps94
  go_wp2_with fail
  go_loopw [10] (fun iv wr => ∃ i : Nat, i ≤ k ∧ iv = .int .i64 i ∧ RowG wr w0 base g n (swr R a b i) ∧ Seg a (b + k) n R (swr R a b i)) (fun iv _ => k - (intOf iv).toNat)
  case atStart => exact ⟨0, by omega, rfl, by rw [swr_zero]; exact H.out, by rw [swr_zero]; exact Seg.refl ..⟩
  case round =>
    obtain ⟨i, hi, rfl, hr, hs⟩ := hrel
    by_cases hlt : i < k
    · have hltz : (i : Int) < (k : Int) := by omega
      obtain ⟨p, hp⟩ : ∃ p, p = a + i := ⟨_, rfl⟩
      obtain ⟨q, hq⟩ : ∃ q, q = b + i := ⟨_, rfl⟩
      have wi : IntKind.i64.wrap ((i : Int) + 1) = (i : Int) + 1 := by have := HH.out; rw [IntKind.wrap_i64]; omega
      have wp : IntKind.i64.wrap ((a : Int) + (i : Int)) = (p : Int) := by have := HH.out; rw [IntKind.wrap_i64]; omega
      have wq : IntKind.i64.wrap ((b : Int) + (i : Int)) = (q : Int) := by have := HH.out; rw [IntKind.wrap_i64]; omega
      have p0 : (0 : Int) ≤ (p : Int) := Int.natCast_nonneg p
      have q0 : (0 : Int) ≤ (q : Int) := Int.natCast_nonneg q
      have p1 : (p : Int) < (n : Int) := by have := HH.out; omega
      have q1 : (q : Int) < (n : Int) := by have := HH.out; omega
      obtain ⟨cp, ip⟩ := hr.cell p (by omega)
      obtain ⟨cq, iq⟩ := hr.cell q (by omega)
      obtain ⟨cpq, ipq⟩ := hr.cell_map p q (by have := HH.out; omega) (by omega) (.float .f64 (swr R a b i q))
      obtain ⟨cqp, iqp⟩ := hr.cell_map q p (by have := HH.out; omega) (by omega) (.float .f64 (swr R a b i p))
      have hsw := hr.swap p q (by omega) (by omega)
      have hsw2 := hr.swap q p (by omega) (by omega)
      have hsg : Seg a (b + k) n (swr R a b i) (swp (swr R a b i) p q) := Seg.swap _ p q (by have := HH.out; omega) (by have := HH.out; omega) (by have := HH.out; omega)
      have hst : swp (swr R a b i) p q = swr R a b (i + 1) := by rw [hp, hq]; exact swr_step R a b i (by have := HH.out; omega)
      rw [hst] at hsw hsg
      have HSW := Lib.hid hsw
      have HSG := Lib.hid (hs.trans hsg)
      have HR := Lib.hid hr
      have HS := Lib.hid hs
      have HP := Lib.hid hp
      have HQ := Lib.hid hq
      have HLT := Lib.hid hlt
      clear hr hs hp hq hlt hi hsw hsw2 hsg hst
      go_wp2_with fail
      go_region
      all_goals go_wp2
      exact ⟨⟨i + 1, HLT.out, by simp, HSW.out.drew, HSG.out⟩, by have := HLT.out; simp only [intOf]; omega⟩
    · have : i = k := by omega
      subst this
      have hltz : ¬ (i : Int) < (i : Int) := by omega
      have HR := Lib.hid hr
      have HS := Lib.hid hs
      clear hr hs hlt hi
      go_wp2
      go_end0
      exact ⟨rfl, HR.out, HS.out⟩
end Go.Proofs.Ytfhcgnkjncfeiaa
