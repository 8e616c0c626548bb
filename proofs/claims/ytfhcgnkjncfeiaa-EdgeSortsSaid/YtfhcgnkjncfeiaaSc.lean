/- slices.insertionSortCmpFunc. -/
import Derived.Test.YtfhcgnkjncfeiaaSb
namespace Go.Proofs.Ytfhcgnkjncfeiaa
open Go.ChangeShapes Go.WideShapes Go.RowKit Fl

/-- in order between a and b -/
def Ordd (R : Nat → Nat) (a b : Nat) : Prop := ∀ i j, a ≤ i → i < j → j < b → rank (R i) ≤ rank (R j)
theorem Ordd.mono {R : Nat → Nat} {a b a' b' : Nat} (h : Ordd R a b) (h1 : a ≤ a') (h2 : b' ≤ b) : Ordd R a' b' := fun i j hi hij hj => h i j (by omega) hij (by omega)
theorem Ordd.le {R : Nat → Nat} {a b : Nat} (h : Ordd R a b) {i j : Nat} (hi : a ≤ i) (hij : i ≤ j) (hj : j < b) : rank (R i) ≤ rank (R j) := by
  rcases Nat.eq_or_lt_of_le hij with e | e
  · subst e; exact Int.le_refl _
  · exact h i j hi e hj
theorem Ordd.congr {R R' : Nat → Nat} {a b : Nat} (h : Ordd R a b) (e : ∀ x, a ≤ x → x < b → R' x = R x) : Ordd R' a b := fun i j hi hij hj => by
  rw [e i hi (by omega), e j (by omega) hj]; exact h i j hi hij hj
theorem Seg.wd {a b n : Nat} {R R' : Nat → Nat} (h : Seg a b n R R') (hR : ∀ j, Wd (R j)) : ∀ j, Wd (R' j) := fun j => by
  by_cases hx : a ≤ j ∧ j < b
  · exact h.2.2 Wd (fun x _ _ => hR x) j hx.1 hx.2
  · rw [h.1 j (by omega)]; exact hR j
/-- the comparison, handed over -/
def CMPF : Value := .func (.func 36) #[] #[]
theorem cmp_same (x y : Nat) (wx : Wd x) (wy : Wd y) (w : World) : ∀ d, Calls Try.prog 36 #[.float .f64 x, .float .f64 y] (w.drewN d) fun e w' => e = .returned (.int .i64 (ecmp x y)) ∧ w' = w.drewN d :=
  fun d => (cmp_any x y (w.drewN d) wx wy).mono fun _ _ ⟨h1, h2⟩ => ⟨h1, h2.symm⟩
/-- in order but for what stands at j -/
def Ins (R : Nat → Nat) (a i j : Nat) : Prop := ∀ p q, a ≤ p → p < q → q ≤ i → q ≠ j → rank (R p) ≤ rank (R q)
theorem ins_swap {R : Nat → Nat} {a i j : Nat} (h : Ins R a i j) (haj : a < j) (hji : j ≤ i) (hl : rank (R j) < rank (R (j - 1))) : Ins (swp R j (j - 1)) a i (j - 1) := by
  intro p q h1 h2 h3 h4
  have e1 : swp R j (j - 1) j = R (j - 1) := by unfold swp; rw [if_neg (by omega), if_pos rfl]
  have e2 : swp R j (j - 1) (j - 1) = R j := by unfold swp; rw [if_pos rfl]
  have e3 : ∀ x, x ≠ j → x ≠ j - 1 → swp R j (j - 1) x = R x := fun x hx hx2 => by unfold swp; rw [if_neg hx2, if_neg hx]
  by_cases hq : q = j
  · subst hq
    rw [e1]
    by_cases hp : p = q - 1
    · subst hp; rw [e2]; omega
    · rw [e3 p (by omega) hp]; exact h p (q - 1) h1 (by omega) (by omega) (by omega)
  · rw [e3 q hq h4]
    by_cases hp : p = j
    · subst hp; rw [e1]; exact h (p - 1) q (by omega) (by omega) h3 hq
    · by_cases hp2 : p = j - 1
      · subst hp2; rw [e2]; exact h j q (by omega) (by omega) h3 hq
      · rw [e3 p hp hp2]; exact h p q h1 h2 h3 hq
theorem ins_end {R : Nat → Nat} {a i j : Nat} (h : Ins R a i j) (hji : j ≤ i) (hs : j ≤ a ∨ rank (R (j - 1)) ≤ rank (R j)) : Ordd R a (i + 1) := by
  intro p q h1 h2 h3
  by_cases hq : q = j
  · subst hq
    rcases hs with hs | hs
    · omega
    · by_cases hp : p = q - 1
      · subst hp; exact hs
      · have := h p (q - 1) h1 (by omega) (by omega) (by omega); omega
  · exact h p q h1 h2 (by omega) hq
set_option maxRecDepth 100000 in
set_option maxHeartbeats 6400000 in
theorem insertion_any {w w0 : World} {base g n : Nat} {R : Nat → Nat} (h : RowG w w0 base g n R) (hR : ∀ j, Wd (R j)) (cap a b : Nat) (hab : a ≤ b) (hbn : b ≤ n) (hn : n ≤ 100000) :
    Calls Try.prog 91 #[.slice (some ⟨g, 0, none⟩) n cap, .int .i64 a, .int .i64 b, CMPF] w fun e w' => e = .returned (.tuple #[]) ∧ ∃ R', RowG w' w0 base g n R' ∧ Seg a b n R R' ∧ Ordd R' a b := by
  have H := Lib.hid h
  have HW := Lib.hid hR
  have HH := Lib.hid (show a ≤ b ∧ b ≤ n ∧ n ≤ 100000 from ⟨hab, hbn, hn⟩)
  have wa : IntKind.i64.wrap ((a : Int) + 1) = ((a + 1 : Nat) : Int) := by rw [IntKind.wrap_i64]; omega
  obtain ⟨A, hA⟩ : ∃ A, a + 1 = A := ⟨_, rfl⟩
  rw [hA] at wa
  have HA := Lib.hid hA
  clear h hR hab hbn hn hA
  unfold CMPF
  go_enter Try.func91, Try.ntmps91
  go_wp2_with fail
  go_loopw [8] (fun iv wr => ∃ i : Nat, a < i ∧ i ≤ b + 1 ∧ iv = .int .i64 i ∧ ∃ R', RowG wr w0 base g n R' ∧ Seg a b n R R' ∧ Ordd R' a i) (fun iv _ => b + 1 - (intOf iv).toNat)
  case atStart => exact ⟨A, by have := HA.out; omega, by have := HA.out; have := HH.out; omega, rfl, R, H.out, Seg.refl .., fun p q h1 h2 h3 => by have := HA.out; omega⟩
  case round =>
    obtain ⟨i, hai, hib, rfl, R1, hr, hs, ho⟩ := hrel
    have HR := Lib.hid hr
    have HS := Lib.hid hs
    have HO := Lib.hid ho
    have HAI := Lib.hid hai
    clear hr hs ho hai
    by_cases hlt : i < b
    · have hltz : (i : Int) < (b : Int) := by omega
      have wi : IntKind.i64.wrap ((i : Int) + 1) = (i : Int) + 1 := by have := HH.out; rw [IntKind.wrap_i64]; omega
      have HLT := Lib.hid hlt
      clear hlt hib
      go_wp2_with fail
      go_loopw [9] (fun jv wr2 => ∃ j : Nat, a ≤ j ∧ j ≤ i ∧ jv = .int .i64 j ∧ ∃ R', RowG wr2 w0 base g n R' ∧ Seg a b n R R' ∧ Ins R' a i j) (fun jv _ => (intOf jv).toNat)
      case atStart => exact ⟨i, by have := HAI.out; omega, Nat.le_refl _, rfl, R1, HR.out, HS.out, fun p q h1 h2 h3 h4 => HO.out p q h1 h2 (by omega)⟩
      case round =>
        obtain ⟨j, haj, hji, rfl, R2, hr, hs, hins⟩ := hrel
        clear HR HS HO
        have HR := Lib.hid hr
        have HS := Lib.hid hs
        have HIN := Lib.hid hins
        have HJ := Lib.hid (show a ≤ j ∧ j ≤ i from ⟨haj, hji⟩)
        by_cases hj0 : a < j
        · have d1 : decide ((j : Int) > (a : Int)) = true := decide_eq_true (by omega)
          have d2 : decide (a < j) = true := decide_eq_true hj0
          obtain ⟨q, hq⟩ : ∃ q, q = j - 1 := ⟨_, rfl⟩
          have wq : IntKind.i64.wrap ((j : Int) - 1) = (q : Int) := by have := HH.out; have := HLT.out; rw [IntKind.wrap_i64]; omega
          have j0 : (0 : Int) ≤ (j : Int) := Int.natCast_nonneg j
          have q0 : (0 : Int) ≤ (q : Int) := Int.natCast_nonneg q
          have jn : j < n := by have := HH.out; have := HLT.out; omega
          have qn : q < n := by omega
          have j1 : (j : Int) < (n : Int) := by omega
          have q1 : (q : Int) < (n : Int) := by omega
          obtain ⟨cj, ij⟩ := hr.cell j jn
          obtain ⟨cq, iq⟩ := hr.cell q qn
          have wds := hs.wd HW.out
          have KC := cmp_same (R2 j) (R2 q) (wds j) (wds q) wr
          by_cases hl : rank (R2 j) < rank (R2 q)
          · have dc : decide (ecmp (R2 j) (R2 q) < 0) = true := decide_eq_true ((ecmp_lt_iff _ _).2 hl)
            obtain ⟨cjq, ijq⟩ := hr.cell_map j q (by omega) qn (.float .f64 (R2 q))
            obtain ⟨cqj, iqj⟩ := hr.cell_map q j (by omega) jn (.float .f64 (R2 j))
            have hsw := hr.swap j q jn qn
            have hsg : Seg a b n R2 (swp R2 j q) := Seg.swap _ j q (by have := HLT.out; omega) (by have := HLT.out; omega) (by have := HH.out; omega)
            have hi2 : Ins (swp R2 j q) a i q := by rw [hq]; exact ins_swap hins hj0 hji (by rw [← hq]; exact hl)
            have HJN := Lib.hid (show j < n ∧ q < n from ⟨jn, qn⟩)
            have HSG := Lib.hid (hs.trans hsg)
            have HI2 := Lib.hid hi2
            have HQ := Lib.hid (show q + 1 = j ∧ a ≤ q from by omega)
            have KC := Lib.hid KC
            clear hr hs hins haj hji hq hj0 jn qn wds hl hsw hsg hi2
            go_wp2_with fail
            refine wp_region_quiet_lit (by kernel_rfl) (by kernel_rfl) ?_
            repeat (go_big_quiet_step ((go_at_call 36; exact Calls.quiet_of_same (KC.out _))))
            refine wpQuiet_nil ?_
            intro _ hw'
            obtain ⟨nq, hw''⟩ := hw'
            subst hw''
            go_wp2_with fail
            go_region
            all_goals go_wp2
            exact ⟨⟨q, HQ.out.2, by have := HQ.out; have := HJ.out; omega, rfl, _, (HR.out.drewN (nq + 1)).swap j q HJN.out.1 HJN.out.2, HSG.out, HI2.out⟩, by have := HQ.out; simp only [intOf]; omega⟩
          · have dc : decide (ecmp (R2 j) (R2 q) < 0) = false := decide_eq_false (fun e => hl ((ecmp_lt_iff _ _).1 e))
            have hend := ins_end hins hji (Or.inr (by rw [← hq]; omega))
            have HE := Lib.hid hend
            have KC := Lib.hid KC
            clear hr hs hins haj hji hq hj0 jn qn wds hl hend
            go_wp2_with fail
            refine wp_region_quiet_lit (by kernel_rfl) (by kernel_rfl) ?_
            repeat (go_big_quiet_step ((go_at_call 36; exact Calls.quiet_of_same (KC.out _))))
            refine wpQuiet_nil ?_
            intro _ hw'
            obtain ⟨nq, hw''⟩ := hw'
            subst hw''
            go_wp2_with fail
            exact ⟨⟨i + 1, by have := HAI.out; omega, by have := HLT.out; omega, by simp, R2, HR.out.drewN nq, HS.out, HE.out⟩, by have := HLT.out; simp only [intOf]; omega⟩
        · have d1 : decide ((j : Int) > (a : Int)) = false := decide_eq_false (by omega)
          have d2 : decide (a < j) = false := decide_eq_false hj0
          have hend := ins_end hins hji (Or.inl (by omega))
          have HE := Lib.hid hend
          clear hr hs hins haj hji hj0 hend
          go_wp2_with fail
          refine wp_region_quiet_lit (by kernel_rfl) (by kernel_rfl) ?_
          repeat (go_big_quiet_step (fail))
          refine wpQuiet_nil ?_
          intro _ hw'
          obtain ⟨nq, hw''⟩ := hw'
          subst hw''
          go_wp2_with fail
          exact ⟨⟨i + 1, by have := HAI.out; omega, by have := HLT.out; omega, by simp, R2, HR.out.drewN nq, HS.out, HE.out⟩, by have := HLT.out; simp only [intOf]; omega⟩
    · have hltz : ¬ (i : Int) < (b : Int) := by omega
      have HIB := Lib.hid (show b ≤ i by omega)
      clear hlt hib
      go_wp2
      go_end0
      exact ⟨rfl, R1, HR.out, HS.out, HO.out.mono (Nat.le_refl _) HIB.out⟩
end Go.Proofs.Ytfhcgnkjncfeiaa
