/- The walks of MeanHeld and MeanForms. -/
import Derived.Test.YtfhcgnkjncfeiaaMg
import Derived.Test.YtfhcgnkjncfeiaaMc
import Derived.Test.YtfhcgnkjncfeiaaG
import Derived.Deep.AppendLies
namespace Go.Proofs.Ytfhcgnkjncfeiaa
open Go.ChangeShapes Go.WideShapes Go.RowKit Fl

/-- the first k of a function's values, as cells -/
def rowK (f : Nat → Int) (k : Nat) : List Value := ((List.range k).map f).map (.int .i64 ·)
theorem rowK_succ (f : Nat → Int) (k : Nat) : rowK f (k + 1) = rowK f k ++ [.int .i64 (f k)] := by
  unfold rowK
  rw [List.range_succ]; simp
theorem row_of {w : World} {base : Nat} {v : Value} {f : Nat → Int} {n : Nat} (h : w.ownsRow base 3 1 v n (rowK f n)) (hn : 0 < n) : ∃ g cap, v = .slice (some ⟨g, 0, none⟩) n cap ∧ base ≤ g ∧ g < w.heap.size ∧ n ≤ cap ∧ cap ≤ 9223372036854775807 ∧ IntsAt w g 0 n f := by
  have hlt := h.lt
  rcases h.2 with ⟨_, h0⟩ | ⟨g, cap, cur, rfl, hb, hg, hc1, hc2, _, ht⟩
  · omega
  · refine ⟨g, cap, rfl, hb, (hlt g rfl).2, hc1, by unfold maxLen at hc2; omega, fun j hj => ?_⟩
    have h1 : (cur.toList.take (n * 1))[j]? = (rowK f n)[j]? := by rw [ht]
    rw [List.getElem?_take, if_pos (by omega)] at h1
    rw [Nat.zero_add, show obj w g = some (.cells cur 3 (0, 0)) from hg]
    show cur[j]? = _
    rw [← Array.getElem?_toList, h1]
    unfold rowK
    simp [hj]
theorem meanF_congr {f g : Nat → Int} {n : Nat} (h : ∀ j, j < n → heldI (f j) = heldI (g j)) : ∀ k, k ≤ n → hs f k = hs g k ∧ hq f k = hq g k ∧ hm f k = hm g k := by
  intro k
  induction k with
  | zero => intro _; exact ⟨rfl, rfl, rfl⟩
  | succ k ih =>
    intro hk
    obtain ⟨h1, h2, h3⟩ := ih (by omega)
    have e := h k (by omega)
    simp only [hs, hq, hm]
    rw [h1, h2, h3, e]; exact ⟨rfl, rfl, rfl⟩
theorem mean_congr {f g : Nat → Int} {n : Nat} (h : ∀ j, j < n → heldI (f j) = heldI (g j)) : meanF f n = meanF g n ∧ varF f n = varF g n ∧ unevenF f n = unevenF g n := by
  obtain ⟨h1, h2, h3⟩ := meanF_congr h n (Nat.le_refl _)
  have hmean : meanF f n = meanF g n := by unfold meanF; rw [h1]
  refine ⟨hmean, ?_, ?_⟩
  · unfold varF vN; rw [h1, h2]
  · unfold unevenF
    rw [hmean]
    cases hok : okN n with
    | false => simp only [Bool.false_eq_true, if_false]
    | true =>
      have hn : n - 1 + 1 = n := by
        unfold okN at hok; simp at hok; omega
      have e1 := hm_max f (n - 1)
      have e2 := hm_max g (n - 1)
      rw [hn] at e1 e2
      rw [← e1, ← e2, h3]
theorem mean_words (f : Nat → Int) (n : Nat) : Wd (meanF f n) ∧ Wd (varF f n) ∧ Wd (unevenF f n) := by
  have hN : Wd NANW := by unfold Wd; decide
  by_cases h : 1 ≤ n ∧ n ≤ 200
  · have hb := hs_bd f n
    have hv := vN_bd f n h.2
    have hnn := nn_bd n h
    refine ⟨?_, ?_, ?_⟩
    · unfold meanF; rw [okN_true h]; exact (quoW_fine (hs f n) n (by omega) (by omega)).2.1
    · unfold varF; rw [okN_true h]; exact (quoW_fine (vN f n) (n * n) (by omega) (by omega)).2.1
    · rcases uneven_eq f n h with ⟨_, e, _⟩ | ⟨_, _, _, e, _⟩
      · rw [e]; exact hN
      · have : HIGH < INF := by decide
        exact (plain_fine (show unevenF f n < INF by omega)).1
  · have e := okN_false h
    unfold meanF varF unevenF
    rw [e]
    exact ⟨hN, hN, hN⟩

/-! ### MeanForms -/
set_option maxRecDepth 100000 in
set_option maxHeartbeats 3200000 in
theorem meanForms_walk (v : Value) (l : List Int) (a b : Int) (w : World) (hs' : IntSlice w v l) (_ : ∀ x ∈ l, (Lit.int .i64 x).wf = true) (_ : (Lit.int .i64 a).wf = true) (_ : (Lit.int .i64 b).wf = true) :
    Calls Try.prog 8 #[v, .int .i64 a, .int .i64 b] w fun e w' => e = .returned (.bool true) ∧ Below w.heap.size w w' := by
  have hr : Wd (ratioF a b) := by
    rw [ratio_held]
    have bp := heldI_bd a
    have bq := heldI_bd b
    generalize heldI a = p at bp
    generalize heldI b = q at bq
    by_cases h : q = 0
    · subst h
      by_cases h2 : p = 0
      · subst h2
        have e : ratioF 0 0 = NANW := by kernel_rfl
        rw [e]; unfold Wd; decide
      · rw [ratio_inf p (by omega)]; unfold Wd; decide
    · rw [ratio_in p q bp (by omega)]
      exact (quoW_fine p q (by omega) (by omega)).2.1
  have c0 := ecmp_self (ratioF a b)
  rcases hs' with ⟨ao, cap, rfl, rfl⟩ | ⟨bb, off, cap, rfl, h0, hcap, hmax, hcell⟩
  · have hN : Wd NANW := by unfold Wd; decide
    have c1 := ecmp_self NANW
    have RA := fun w => Lib.hid (ratio_any a b w)
    have RB := fun w => Lib.hid (rratio_any a b w)
    generalize ratioF a b = r at hr c0 RA RB
    go_enter Try.func8, Try.ntmps8
    go_wp2_with fail
    refine (mean_none _ _ _).mono ?_
    rintro _ _ ⟨rfl, rfl⟩
    go_wp2_with fail
    refine (rmean_none _ _ _).mono ?_
    rintro _ _ ⟨rfl, rfl⟩
    go_wp2_with fail
    refine (same_any _ _ _ hN hN).mono ?_
    rintro _ _ ⟨rfl, rfl⟩
    go_wp2_with fail
    refine (var_none _ _ _).mono ?_
    rintro _ _ ⟨rfl, rfl⟩
    go_wp2_with fail
    refine (rvar_none _ _ _).mono ?_
    rintro _ _ ⟨rfl, rfl⟩
    go_wp2_with fail
    refine (same_any _ _ _ hN hN).mono ?_
    rintro _ _ ⟨rfl, rfl⟩
    go_wp2_with fail
    refine (RA _).out.mono ?_
    rintro _ _ ⟨rfl, k1, rfl⟩
    go_wp2_with fail
    refine (RB _).out.mono ?_
    rintro _ _ ⟨rfl, rfl⟩
    go_wp2_with fail
    refine (same_any _ _ _ hr hr).mono ?_
    rintro _ _ ⟨rfl, rfl⟩
    go_wp2_with fail
    refine (uneven_none _ _ _).mono ?_
    rintro _ _ ⟨rfl, rfl⟩
    go_wp2_with fail
    refine (runeven_none _ _ _).mono ?_
    rintro _ _ ⟨rfl, rfl⟩
    go_wp2_with fail
    refine (same_any _ _ _ hN hN).mono ?_
    rintro _ _ ⟨rfl, rfl⟩
    go_wp2_with fail
    refine (awake2_any _).mono ?_
    rintro _ w2 ⟨rfl, hb⟩
    go_wp2
    go_ret
    exact ⟨rfl, ⟨hb.os, hb.tape, hb.output, hb.size, hb.block⟩⟩
  · obtain ⟨n, hn⟩ : ∃ n, l.length = n := ⟨_, rfl⟩
    rw [hn] at h0 hcap hcell ⊢
    have hI : IntsAt w bb off n fun j => l.getD j 0 := hcell
    generalize (fun j => l.getD j 0) = f at hI
    by_cases hbig : 300 < n
    · have d1 : decide (300 < (n : Int)) = true := decide_eq_true (by omega)
      clear hbig hI hcell h0 hcap hmax hr c0 hn
      go_enter Try.func8, Try.ntmps8
      go_wp2_with fail
      refine (awake2_any _).mono ?_
      rintro _ w2 ⟨rfl, hb⟩
      go_wp2
      go_ret
      exact ⟨rfl, hb⟩
    · have d1 : decide (300 < (n : Int)) = false := decide_eq_false (by omega)
      unfold maxLen at hmax
      have hI' : ∀ k, IntsAt (w.drewN k) bb off n f := fun k => hI
      have A1 := Lib.hid (mean_any f bb off n cap w hI hcap (by omega))
      have A2 := Lib.hid (rmean_any f bb off n cap w hI h0)
      have A3 := Lib.hid (var_any f bb off n cap w hI hcap (by omega))
      have A4 := Lib.hid (rvar_any f bb off n cap w hI h0)
      have A5 := fun k => Lib.hid (uneven_any f bb off n cap (w.drewN k) (hI' k) hcap (by omega))
      have A6 := fun k => Lib.hid (runeven_any f bb off n cap (w.drewN k) (hI' k) h0 (by omega))
      obtain ⟨w1, w2, w3⟩ := mean_words f n
      have c1 := ecmp_self (meanF f n)
      have c2 := ecmp_self (varF f n)
      have c3 := ecmp_self (unevenF f n)
      have RA := fun w => Lib.hid (ratio_any a b w)
      have RB := fun w => Lib.hid (rratio_any a b w)
      generalize ratioF a b = r at hr c0 RA RB
      generalize meanF f n = m1 at A1 A2 w1 c1
      generalize varF f n = m2 at A3 A4 w2 c2
      generalize unevenF f n = m3 at A5 A6 w3 c3
      clear hbig hI hI' hcell h0 hcap hmax hn
      go_enter Try.func8, Try.ntmps8
      go_wp2_with fail
      refine A1.out.mono ?_
      rintro _ _ ⟨rfl, rfl⟩
      go_wp2_with fail
      refine A2.out.mono ?_
      rintro _ _ ⟨rfl, rfl⟩
      go_wp2_with fail
      refine (same_any _ _ _ w1 w1).mono ?_
      rintro _ _ ⟨rfl, rfl⟩
      go_wp2_with fail
      refine A3.out.mono ?_
      rintro _ _ ⟨rfl, rfl⟩
      go_wp2_with fail
      refine A4.out.mono ?_
      rintro _ _ ⟨rfl, rfl⟩
      go_wp2_with fail
      refine (same_any _ _ _ w2 w2).mono ?_
      rintro _ _ ⟨rfl, rfl⟩
      go_wp2_with fail
      refine (RA _).out.mono ?_
      rintro _ _ ⟨rfl, k1, rfl⟩
      go_wp2_with fail
      refine (RB _).out.mono ?_
      rintro _ _ ⟨rfl, rfl⟩
      go_wp2_with fail
      refine (same_any _ _ _ hr hr).mono ?_
      rintro _ _ ⟨rfl, rfl⟩
      go_wp2_with fail
      refine (A5 k1).out.mono ?_
      rintro _ _ ⟨rfl, k2, rfl⟩
      rw [World.drewN_drewN]
      go_wp2_with fail
      refine (A6 (k1 + k2)).out.mono ?_
      rintro _ _ ⟨rfl, rfl⟩
      go_wp2_with fail
      refine (same_any _ _ _ w3 w3).mono ?_
      rintro _ _ ⟨rfl, rfl⟩
      go_wp2_with fail
      refine (awake2_any _).mono ?_
      rintro _ w9 ⟨rfl, hb⟩
      go_wp2
      go_ret
      exact ⟨rfl, ⟨hb.os, hb.tape, hb.output, hb.size, hb.block⟩⟩
end Go.Proofs.Ytfhcgnkjncfeiaa
