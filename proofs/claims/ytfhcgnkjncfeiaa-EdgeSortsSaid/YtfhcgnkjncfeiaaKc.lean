/- Contracts: edge.Clamp, slices.MinFunc and MaxFunc under edge.Cmp, edge.Min, edge.Max. -/
import Derived.Test.YtfhcgnkjncfeiaaKb
namespace Go.Proofs.Ytfhcgnkjncfeiaa
open Go.ChangeShapes Go.WideShapes Go.RowKit Fl

def clampF (x lo hi : Nat) : Nat :=
  if isnan x || isnan lo || isnan hi || decide (ecmp hi lo < 0) || decide (ecmp x lo < 0) then lo else if 0 < ecmp x hi then hi else x

set_option maxHeartbeats 1600000 in
theorem clamp_any (x lo hi : Nat) (w : World) (wx : Wd x) (wl : Wd lo) (wh : Wd hi) : Calls Try.prog 41 #[.float .f64 x, .float .f64 lo, .float .f64 hi] w fun e w' => e = .returned (.float .f64 (clampF x lo hi)) ∧ w = w' := by
  unfold clampF
  cases hx : isnan x with
  | true =>
    go_enter Try.func41, Try.ntmps41
    go_wp2_with (first | (go_at_call 36; refine (cmp_any _ _ _ (by assumption) (by assumption)).mono ?_; rintro _ _ ⟨rfl, rfl⟩) | (go_at_call 30; refine (same_any _ _ _ (by assumption) (by assumption)).mono ?_; rintro _ _ ⟨rfl, rfl⟩) | (go_at_call 68; refine (isNaN_any _ _).mono ?_; rintro _ _ ⟨rfl, rfl⟩) | (go_at_call 28; refine (isInf_any _ _ (by assumption) (by assumption)).mono ?_; rintro _ _ ⟨rfl, rfl⟩) | (go_at_call 40; refine (nan_any _).mono ?_; rintro _ _ ⟨rfl, rfl⟩) | (go_at_call 39; refine (infPos_any _).mono ?_; rintro _ _ ⟨rfl, rfl⟩) | (go_at_call 39; refine (infNeg_any _).mono ?_; rintro _ _ ⟨rfl, rfl⟩) | (go_at_call 46; refine (negNought_any _).mono ?_; rintro _ _ ⟨rfl, rfl⟩) | (go_at_call 43; refine (bit_any _ _).mono ?_; rintro _ _ ⟨rfl, rfl⟩))
    go_ret
    exact ⟨rfl, rfl⟩
  | false =>
    cases hl : isnan lo with
    | true =>
      go_enter Try.func41, Try.ntmps41
      go_wp2_with (first | (go_at_call 36; refine (cmp_any _ _ _ (by assumption) (by assumption)).mono ?_; rintro _ _ ⟨rfl, rfl⟩) | (go_at_call 30; refine (same_any _ _ _ (by assumption) (by assumption)).mono ?_; rintro _ _ ⟨rfl, rfl⟩) | (go_at_call 68; refine (isNaN_any _ _).mono ?_; rintro _ _ ⟨rfl, rfl⟩) | (go_at_call 28; refine (isInf_any _ _ (by assumption) (by assumption)).mono ?_; rintro _ _ ⟨rfl, rfl⟩) | (go_at_call 40; refine (nan_any _).mono ?_; rintro _ _ ⟨rfl, rfl⟩) | (go_at_call 39; refine (infPos_any _).mono ?_; rintro _ _ ⟨rfl, rfl⟩) | (go_at_call 39; refine (infNeg_any _).mono ?_; rintro _ _ ⟨rfl, rfl⟩) | (go_at_call 46; refine (negNought_any _).mono ?_; rintro _ _ ⟨rfl, rfl⟩) | (go_at_call 43; refine (bit_any _ _).mono ?_; rintro _ _ ⟨rfl, rfl⟩))
      go_ret
      exact ⟨rfl, rfl⟩
    | false =>
      cases hh : isnan hi with
      | true =>
        go_enter Try.func41, Try.ntmps41
        go_wp2_with (first | (go_at_call 36; refine (cmp_any _ _ _ (by assumption) (by assumption)).mono ?_; rintro _ _ ⟨rfl, rfl⟩) | (go_at_call 30; refine (same_any _ _ _ (by assumption) (by assumption)).mono ?_; rintro _ _ ⟨rfl, rfl⟩) | (go_at_call 68; refine (isNaN_any _ _).mono ?_; rintro _ _ ⟨rfl, rfl⟩) | (go_at_call 28; refine (isInf_any _ _ (by assumption) (by assumption)).mono ?_; rintro _ _ ⟨rfl, rfl⟩) | (go_at_call 40; refine (nan_any _).mono ?_; rintro _ _ ⟨rfl, rfl⟩) | (go_at_call 39; refine (infPos_any _).mono ?_; rintro _ _ ⟨rfl, rfl⟩) | (go_at_call 39; refine (infNeg_any _).mono ?_; rintro _ _ ⟨rfl, rfl⟩) | (go_at_call 46; refine (negNought_any _).mono ?_; rintro _ _ ⟨rfl, rfl⟩) | (go_at_call 43; refine (bit_any _ _).mono ?_; rintro _ _ ⟨rfl, rfl⟩))
        go_ret
        exact ⟨rfl, rfl⟩
      | false =>
        by_cases h1 : ecmp hi lo < 0
        · have e1 : decide (ecmp hi lo < 0) = true := decide_eq_true h1
          rw [e1]
          go_enter Try.func41, Try.ntmps41
          go_wp2_with (first | (go_at_call 36; refine (cmp_any _ _ _ (by assumption) (by assumption)).mono ?_; rintro _ _ ⟨rfl, rfl⟩) | (go_at_call 30; refine (same_any _ _ _ (by assumption) (by assumption)).mono ?_; rintro _ _ ⟨rfl, rfl⟩) | (go_at_call 68; refine (isNaN_any _ _).mono ?_; rintro _ _ ⟨rfl, rfl⟩) | (go_at_call 28; refine (isInf_any _ _ (by assumption) (by assumption)).mono ?_; rintro _ _ ⟨rfl, rfl⟩) | (go_at_call 40; refine (nan_any _).mono ?_; rintro _ _ ⟨rfl, rfl⟩) | (go_at_call 39; refine (infPos_any _).mono ?_; rintro _ _ ⟨rfl, rfl⟩) | (go_at_call 39; refine (infNeg_any _).mono ?_; rintro _ _ ⟨rfl, rfl⟩) | (go_at_call 46; refine (negNought_any _).mono ?_; rintro _ _ ⟨rfl, rfl⟩) | (go_at_call 43; refine (bit_any _ _).mono ?_; rintro _ _ ⟨rfl, rfl⟩))
          go_ret
          exact ⟨rfl, rfl⟩
        · have e1 : decide (ecmp hi lo < 0) = false := decide_eq_false h1
          rw [e1]
          by_cases h2 : ecmp x lo < 0
          · have e2 : decide (ecmp x lo < 0) = true := decide_eq_true h2
            rw [e2]
            go_enter Try.func41, Try.ntmps41
            go_wp2_with (first | (go_at_call 36; refine (cmp_any _ _ _ (by assumption) (by assumption)).mono ?_; rintro _ _ ⟨rfl, rfl⟩) | (go_at_call 30; refine (same_any _ _ _ (by assumption) (by assumption)).mono ?_; rintro _ _ ⟨rfl, rfl⟩) | (go_at_call 68; refine (isNaN_any _ _).mono ?_; rintro _ _ ⟨rfl, rfl⟩) | (go_at_call 28; refine (isInf_any _ _ (by assumption) (by assumption)).mono ?_; rintro _ _ ⟨rfl, rfl⟩) | (go_at_call 40; refine (nan_any _).mono ?_; rintro _ _ ⟨rfl, rfl⟩) | (go_at_call 39; refine (infPos_any _).mono ?_; rintro _ _ ⟨rfl, rfl⟩) | (go_at_call 39; refine (infNeg_any _).mono ?_; rintro _ _ ⟨rfl, rfl⟩) | (go_at_call 46; refine (negNought_any _).mono ?_; rintro _ _ ⟨rfl, rfl⟩) | (go_at_call 43; refine (bit_any _ _).mono ?_; rintro _ _ ⟨rfl, rfl⟩))
            go_ret
            exact ⟨rfl, rfl⟩
          · have e2 : decide (ecmp x lo < 0) = false := decide_eq_false h2
            rw [e2]
            by_cases h3 : 0 < ecmp x hi
            · have e3 : decide (0 < ecmp x hi) = true := decide_eq_true h3
              rw [if_neg (by decide), if_pos h3]
              go_enter Try.func41, Try.ntmps41
              go_wp2_with (first | (go_at_call 36; refine (cmp_any _ _ _ (by assumption) (by assumption)).mono ?_; rintro _ _ ⟨rfl, rfl⟩) | (go_at_call 30; refine (same_any _ _ _ (by assumption) (by assumption)).mono ?_; rintro _ _ ⟨rfl, rfl⟩) | (go_at_call 68; refine (isNaN_any _ _).mono ?_; rintro _ _ ⟨rfl, rfl⟩) | (go_at_call 28; refine (isInf_any _ _ (by assumption) (by assumption)).mono ?_; rintro _ _ ⟨rfl, rfl⟩) | (go_at_call 40; refine (nan_any _).mono ?_; rintro _ _ ⟨rfl, rfl⟩) | (go_at_call 39; refine (infPos_any _).mono ?_; rintro _ _ ⟨rfl, rfl⟩) | (go_at_call 39; refine (infNeg_any _).mono ?_; rintro _ _ ⟨rfl, rfl⟩) | (go_at_call 46; refine (negNought_any _).mono ?_; rintro _ _ ⟨rfl, rfl⟩) | (go_at_call 43; refine (bit_any _ _).mono ?_; rintro _ _ ⟨rfl, rfl⟩))
              go_ret
              exact ⟨rfl, rfl⟩
            · have e3 : decide (0 < ecmp x hi) = false := decide_eq_false h3
              rw [if_neg (by decide), if_neg h3]
              go_enter Try.func41, Try.ntmps41
              go_wp2_with (first | (go_at_call 36; refine (cmp_any _ _ _ (by assumption) (by assumption)).mono ?_; rintro _ _ ⟨rfl, rfl⟩) | (go_at_call 30; refine (same_any _ _ _ (by assumption) (by assumption)).mono ?_; rintro _ _ ⟨rfl, rfl⟩) | (go_at_call 68; refine (isNaN_any _ _).mono ?_; rintro _ _ ⟨rfl, rfl⟩) | (go_at_call 28; refine (isInf_any _ _ (by assumption) (by assumption)).mono ?_; rintro _ _ ⟨rfl, rfl⟩) | (go_at_call 40; refine (nan_any _).mono ?_; rintro _ _ ⟨rfl, rfl⟩) | (go_at_call 39; refine (infPos_any _).mono ?_; rintro _ _ ⟨rfl, rfl⟩) | (go_at_call 39; refine (infNeg_any _).mono ?_; rintro _ _ ⟨rfl, rfl⟩) | (go_at_call 46; refine (negNought_any _).mono ?_; rintro _ _ ⟨rfl, rfl⟩) | (go_at_call 43; refine (bit_any _ _).mono ?_; rintro _ _ ⟨rfl, rfl⟩))
              go_ret
              exact ⟨rfl, rfl⟩

def minAt (f : Nat → Nat) : Nat → Nat
  | 0 => f 0
  | i + 1 => if ecmp (f (i + 1)) (minAt f i) < 0 then f (i + 1) else minAt f i
def maxAt (f : Nat → Nat) : Nat → Nat
  | 0 => f 0
  | i + 1 => if 0 < ecmp (f (i + 1)) (maxAt f i) then f (i + 1) else maxAt f i
theorem minAt_of {f : Nat → Nat} {P : Nat → Prop} (i : Nat) (h : ∀ j, j ≤ i → P (f j)) : P (minAt f i) := by
  induction i with
  | zero => exact h 0 (by omega)
  | succ i ih => unfold minAt; split
                 · exact h _ (by omega)
                 · exact ih fun j hj => h j (by omega)
theorem maxAt_of {f : Nat → Nat} {P : Nat → Prop} (i : Nat) (h : ∀ j, j ≤ i → P (f j)) : P (maxAt f i) := by
  induction i with
  | zero => exact h 0 (by omega)
  | succ i ih => unfold maxAt; split
                 · exact h _ (by omega)
                 · exact ih fun j hj => h j (by omega)

set_option maxHeartbeats 1600000 in
theorem minFunc_any (f : Nat → Nat) (b off cap m : Nat) (w : World) (h0 : 1 ≤ m) (hm : m < 4611686018427387904) (hw : ∀ j, j < m → Wd (f j)) (hc : ∀ j, j < m → cellAt (obj w b) (off + j) = some (.float .f64 (f j))) :
    Calls Try.prog 78 #[.slice (some ⟨b, off, none⟩) m cap, .func (.func 36) #[] #[]] w fun e w' => e = .returned (.float .f64 (minAt f (m - 1))) ∧ w = w' := by
  have c00 : cellAt (obj w b) off = some (.float .f64 (f 0)) := hc 0 (by omega)
  have hn1 : ¬ (m : Int) < 1 := by omega
  have hp : (0 : Int) < (m : Int) := by omega
  have hp2 : 0 < m := by omega
  have HW := Lib.hid hw
  have HC := Lib.hid hc
  clear hw hc
  go_enter Try.func78, Try.ntmps78
  go_wp2
  go_loopw [5, 6] (fun s5 s6 wr => ∃ (t v : Nat), s5 = .float .f64 v ∧ s6 = .int .i64 ((t : Int) + 1) ∧ t + 1 ≤ m ∧ v = minAt f t ∧ wr = w) (fun _ i _ => m - (intOf i).toNat)
  case atStart => exact ⟨0, f 0, rfl, rfl, by omega, rfl, rfl⟩
  case round =>
    obtain ⟨t, v, rfl, rfl, htm, hv, rfl⟩ := hrel
    clear c00
    have wv : Wd v := by rw [hv]; exact minAt_of t fun j hj => HW.out j (by omega)
    by_cases hlt : t + 1 < m
    · have hltz : (t : Int) + 1 < (m : Int) := by omega
      have hs : minAt f (t + 1) = if ecmp (f (t + 1)) v < 0 then f (t + 1) else v := by rw [hv]; rfl
      have cT := HC.out (t + 1) hlt
      have wT := HW.out (t + 1) hlt
      have ea : ((t : Int) + 1).toNat = t + 1 := by omega
      have pa : (0 : Int) ≤ (t : Int) + 1 := by omega
      have ra : IntKind.i64.wrap ((t : Int) + 1) = (t : Int) + 1 := by rw [IntKind.wrap_i64]; omega
      have ra2 : IntKind.i64.wrap ((t : Int) + 1 + 1) = (t : Int) + 1 + 1 := by rw [IntKind.wrap_i64]; omega
      have ws : Wd v := wv
      clear hv
      generalize f (t + 1) = u at cT wT hs
      obtain ⟨j, hj⟩ : ∃ j, j = t + 1 := ⟨_, rfl⟩
      have ej : (t : Int) + 1 = (j : Int) := by omega
      rw [← hj] at cT hs ea hlt
      have hj' := Lib.hid hj
      rw [ej] at ea pa ra ra2 hltz ⊢
      have hjm := Lib.hid hlt
      clear ej ea hj htm hlt wv
      by_cases hu : ecmp u v < 0
      · have e2 : decide (ecmp u v < 0) = true := decide_eq_true hu
        rw [if_pos hu] at hs
        go_wp2_with (go_at_call 36; refine (cmp_any _ _ _ (by assumption) (by assumption)).mono ?_; rintro _ _ ⟨rfl, rfl⟩)
        exact ⟨⟨j, u, rfl, rfl, by have := hjm.out; omega, hs.symm, trivial⟩, by have := hj'.out; have := hjm.out; simp only [intOf]; omega⟩
      · have e2 : decide (ecmp u v < 0) = false := decide_eq_false hu
        rw [if_neg hu] at hs
        go_wp2_with (go_at_call 36; refine (cmp_any _ _ _ (by assumption) (by assumption)).mono ?_; rintro _ _ ⟨rfl, rfl⟩)
        exact ⟨⟨j, v, rfl, rfl, by have := hjm.out; omega, hs.symm, trivial⟩, by have := hj'.out; have := hjm.out; simp only [intOf]; omega⟩
    · have hltz : ¬ (t : Int) + 1 < (m : Int) := by omega
      have et : t = m - 1 := by omega
      subst et
      have e3 : ((m - 1 : Nat) : Int) + 1 = (m : Int) := by omega
      rw [e3]
      go_wp2
      go_ret
      exact ⟨rfl, rfl⟩
set_option maxHeartbeats 1600000 in
theorem maxFunc_any (f : Nat → Nat) (b off cap m : Nat) (w : World) (h0 : 1 ≤ m) (hm : m < 4611686018427387904) (hw : ∀ j, j < m → Wd (f j)) (hc : ∀ j, j < m → cellAt (obj w b) (off + j) = some (.float .f64 (f j))) :
    Calls Try.prog 79 #[.slice (some ⟨b, off, none⟩) m cap, .func (.func 36) #[] #[]] w fun e w' => e = .returned (.float .f64 (maxAt f (m - 1))) ∧ w = w' := by
  have c00 : cellAt (obj w b) off = some (.float .f64 (f 0)) := hc 0 (by omega)
  have hn1 : ¬ (m : Int) < 1 := by omega
  have hp : (0 : Int) < (m : Int) := by omega
  have hp2 : 0 < m := by omega
  have HW := Lib.hid hw
  have HC := Lib.hid hc
  clear hw hc
  go_enter Try.func79, Try.ntmps79
  go_wp2
  go_loopw [5, 6] (fun s5 s6 wr => ∃ (t v : Nat), s5 = .float .f64 v ∧ s6 = .int .i64 ((t : Int) + 1) ∧ t + 1 ≤ m ∧ v = maxAt f t ∧ wr = w) (fun _ i _ => m - (intOf i).toNat)
  case atStart => exact ⟨0, f 0, rfl, rfl, by omega, rfl, rfl⟩
  case round =>
    obtain ⟨t, v, rfl, rfl, htm, hv, rfl⟩ := hrel
    clear c00
    have wv : Wd v := by rw [hv]; exact maxAt_of t fun j hj => HW.out j (by omega)
    by_cases hlt : t + 1 < m
    · have hltz : (t : Int) + 1 < (m : Int) := by omega
      have hs : maxAt f (t + 1) = if 0 < ecmp (f (t + 1)) v then f (t + 1) else v := by rw [hv]; rfl
      have cT := HC.out (t + 1) hlt
      have wT := HW.out (t + 1) hlt
      have ea : ((t : Int) + 1).toNat = t + 1 := by omega
      have pa : (0 : Int) ≤ (t : Int) + 1 := by omega
      have ra : IntKind.i64.wrap ((t : Int) + 1) = (t : Int) + 1 := by rw [IntKind.wrap_i64]; omega
      have ra2 : IntKind.i64.wrap ((t : Int) + 1 + 1) = (t : Int) + 1 + 1 := by rw [IntKind.wrap_i64]; omega
      have ws : Wd v := wv
      clear hv
      generalize f (t + 1) = u at cT wT hs
      obtain ⟨j, hj⟩ : ∃ j, j = t + 1 := ⟨_, rfl⟩
      have ej : (t : Int) + 1 = (j : Int) := by omega
      rw [← hj] at cT hs ea hlt
      have hj' := Lib.hid hj
      rw [ej] at ea pa ra ra2 hltz ⊢
      have hjm := Lib.hid hlt
      clear ej ea hj htm hlt wv
      by_cases hu : 0 < ecmp u v
      · have e2 : decide (0 < ecmp u v) = true := decide_eq_true hu
        rw [if_pos hu] at hs
        go_wp2_with (go_at_call 36; refine (cmp_any _ _ _ (by assumption) (by assumption)).mono ?_; rintro _ _ ⟨rfl, rfl⟩)
        exact ⟨⟨j, u, rfl, rfl, by have := hjm.out; omega, hs.symm, trivial⟩, by have := hj'.out; have := hjm.out; simp only [intOf]; omega⟩
      · have e2 : decide (0 < ecmp u v) = false := decide_eq_false hu
        rw [if_neg hu] at hs
        go_wp2_with (go_at_call 36; refine (cmp_any _ _ _ (by assumption) (by assumption)).mono ?_; rintro _ _ ⟨rfl, rfl⟩)
        exact ⟨⟨j, v, rfl, rfl, by have := hjm.out; omega, hs.symm, trivial⟩, by have := hj'.out; have := hjm.out; simp only [intOf]; omega⟩
    · have hltz : ¬ (t : Int) + 1 < (m : Int) := by omega
      have et : t = m - 1 := by omega
      subst et
      have e3 : ((m - 1 : Nat) : Int) + 1 = (m : Int) := by omega
      rw [e3]
      go_wp2
      go_ret
      exact ⟨rfl, rfl⟩

set_option maxHeartbeats 800000 in
theorem min_any (f : Nat → Nat) (b off cap m : Nat) (w : World) (h0 : 1 ≤ m) (hm : m < 4611686018427387904) (hw : ∀ j, j < m → Wd (f j)) (hc : ∀ j, j < m → cellAt (obj w b) (off + j) = some (.float .f64 (f j))) :
    Calls Try.prog 44 #[.slice (some ⟨b, off, none⟩) m cap] w fun e w' => e = .returned (.float .f64 (minAt f (m - 1))) ∧ w = w' := by
  have hp : ¬ (m : Int) = 0 := by omega
  have hp2 : ¬ m = 0 := by omega
  have K := Lib.hid (minFunc_any f b off cap m w h0 hm hw hc)
  clear hw hc h0
  go_enter Try.func44, Try.ntmps44
  go_wp2_with (go_at_call 78; refine K.out.mono ?_; rintro _ _ ⟨rfl, rfl⟩)
  go_ret
  exact ⟨rfl, rfl⟩
set_option maxHeartbeats 800000 in
theorem max_any (f : Nat → Nat) (b off cap m : Nat) (w : World) (h0 : 1 ≤ m) (hm : m < 4611686018427387904) (hw : ∀ j, j < m → Wd (f j)) (hc : ∀ j, j < m → cellAt (obj w b) (off + j) = some (.float .f64 (f j))) :
    Calls Try.prog 45 #[.slice (some ⟨b, off, none⟩) m cap] w fun e w' => e = .returned (.float .f64 (maxAt f (m - 1))) ∧ w = w' := by
  have hp : ¬ (m : Int) = 0 := by omega
  have hp2 : ¬ m = 0 := by omega
  have K := Lib.hid (maxFunc_any f b off cap m w h0 hm hw hc)
  clear hw hc h0
  go_enter Try.func45, Try.ntmps45
  go_wp2_with (go_at_call 79; refine K.out.mono ?_; rintro _ _ ⟨rfl, rfl⟩)
  go_ret
  exact ⟨rfl, rfl⟩
set_option maxHeartbeats 400000 in
theorem min_none (cap : Nat) (w : World) : Calls Try.prog 44 #[.slice none 0 cap] w fun e w' => e = .returned (.float .f64 9221120237041090561) ∧ w = w' := by
  go_enter Try.func44, Try.ntmps44
  go_wp2_with (first | (go_at_call 36; refine (cmp_any _ _ _ (by assumption) (by assumption)).mono ?_; rintro _ _ ⟨rfl, rfl⟩) | (go_at_call 30; refine (same_any _ _ _ (by assumption) (by assumption)).mono ?_; rintro _ _ ⟨rfl, rfl⟩) | (go_at_call 68; refine (isNaN_any _ _).mono ?_; rintro _ _ ⟨rfl, rfl⟩) | (go_at_call 28; refine (isInf_any _ _ (by assumption) (by assumption)).mono ?_; rintro _ _ ⟨rfl, rfl⟩) | (go_at_call 40; refine (nan_any _).mono ?_; rintro _ _ ⟨rfl, rfl⟩) | (go_at_call 39; refine (infPos_any _).mono ?_; rintro _ _ ⟨rfl, rfl⟩) | (go_at_call 39; refine (infNeg_any _).mono ?_; rintro _ _ ⟨rfl, rfl⟩) | (go_at_call 46; refine (negNought_any _).mono ?_; rintro _ _ ⟨rfl, rfl⟩) | (go_at_call 43; refine (bit_any _ _).mono ?_; rintro _ _ ⟨rfl, rfl⟩))
  go_ret
  exact ⟨rfl, rfl⟩
set_option maxHeartbeats 400000 in
theorem max_none (cap : Nat) (w : World) : Calls Try.prog 45 #[.slice none 0 cap] w fun e w' => e = .returned (.float .f64 9221120237041090561) ∧ w = w' := by
  go_enter Try.func45, Try.ntmps45
  go_wp2_with (first | (go_at_call 36; refine (cmp_any _ _ _ (by assumption) (by assumption)).mono ?_; rintro _ _ ⟨rfl, rfl⟩) | (go_at_call 30; refine (same_any _ _ _ (by assumption) (by assumption)).mono ?_; rintro _ _ ⟨rfl, rfl⟩) | (go_at_call 68; refine (isNaN_any _ _).mono ?_; rintro _ _ ⟨rfl, rfl⟩) | (go_at_call 28; refine (isInf_any _ _ (by assumption) (by assumption)).mono ?_; rintro _ _ ⟨rfl, rfl⟩) | (go_at_call 40; refine (nan_any _).mono ?_; rintro _ _ ⟨rfl, rfl⟩) | (go_at_call 39; refine (infPos_any _).mono ?_; rintro _ _ ⟨rfl, rfl⟩) | (go_at_call 39; refine (infNeg_any _).mono ?_; rintro _ _ ⟨rfl, rfl⟩) | (go_at_call 46; refine (negNought_any _).mono ?_; rintro _ _ ⟨rfl, rfl⟩) | (go_at_call 43; refine (bit_any _ _).mono ?_; rintro _ _ ⟨rfl, rfl⟩))
  go_ret
  exact ⟨rfl, rfl⟩
end Go.Proofs.Ytfhcgnkjncfeiaa
