/- The walk of GaugeForms. -/
import Derived.Test.YtfhcgnkjncfeiaaGk
import Derived.Test.YtfhcgnkjncfeiaaGs
import Derived.Test.YtfhcgnkjncfeiaaMg
namespace Go.Proofs.Ytfhcgnkjncfeiaa
open Go.ChangeShapes Go.WideShapes Go.RowKit Fl

theorem runeven_sl {w : World} {v : Value} {n : Nat} {f : Nat → Int} (h : SlAt w v n f) (hn : n ≤ 1000) : Calls Try.prog 34 #[v] w fun e w' => e = .returned (.float .f64 (unevenF f n)) ∧ w = w' := by
  rcases h with ⟨ao, cap, rfl, rfl⟩ | ⟨b, off, cap, rfl, h0, h1, h2, h3⟩
  · rw [uneven_zero]; exact runeven_none ao cap w
  · exact runeven_any f b off n cap w h3 h0 hn
theorem uneven_wd (f : Nat → Int) (n : Nat) : Wd (unevenF f n) := (mean_words f n).2.2
theorem PutsAt.below {w w' : World} {base Mb Cb n i : Nat} {wear : Nat → Int} {writes : Int} (h : PutsAt w base Mb Cb n i wear writes) (hb : Below w.heap.size w w') : PutsAt w' base Mb Cb n (i + 1) wear writes :=
  ⟨h.hm.below hb, h.b1, h.b2, by have := h.hw; omega, fun j hj => by have := h.hr j hj; omega⟩
/-- the worst of them, by the gauge and by the document, are the same -/
theorem worst_same {f L : Nat → Int} {n : Nat} {z : Nat} (h0 : n = 0 → z = NANW) (h1 : 0 < n → (∀ j, j < n → rank z ≤ rank (lifeF (f j) (L j))) ∧ ∃ j, j < n ∧ z = lifeF (f j) (L j)) : decide (ecmp (worstF f L n) z = 0) = true ∧ Wd (worstF f L n) ∧ Wd z := by
  rcases Nat.eq_zero_or_pos n with e | e
  · have e1 : worstF f L n = NANW := by unfold worstF; rw [if_pos e]
    have hN : Wd NANW := by unfold Wd; decide
    rw [e1, h0 e]
    exact ⟨by rw [ecmp_self]; rfl, hN, hN⟩
  · obtain ⟨a1, j, hj, a2⟩ := h1 e
    obtain ⟨i, hi, b2⟩ := worst_in f L n e
    have b1 := worst_rank f L n j hj
    have a3 := a1 i hi
    rw [← a2] at b1
    rw [← b2] at a3
    refine ⟨decide_eq_true ((ecmp_eq_iff _ _).2 (by omega)), by rw [b2]; exact (life_fine _ _).1, by rw [a2]; exact (life_fine _ _).1⟩

set_option maxRecDepth 100000 in
set_option maxHeartbeats 12800000 in
theorem forms_some (a0 a1 a4 a5 a6 : Int) (v2 v3 v7 : Value) (n m q : Nat) (f g p : Nat → Int) (w : World) (h2 : SlAt w v2 n f) (h3 : SlAt w v3 m g) (h7 : SlAt w v7 q p) (hg : ∀ j, j < m → g j ≤ 9223372036854775807) (ha1 : a1 ≤ 9223372036854775807) (hs : n + m + q ≤ 500) :
    Calls Try.prog 18 #[.int .i64 a0, .int .i64 a1, v2, v3, .int .i64 a4, .int .i64 a5, .int .i64 a6, v7] w fun e w' => e = .returned (.bool true) ∧ Below w.heap.size w w' := by
  have KW := Lib.hid (fun (w' : World) (hb : Below w.heap.size w w') => worst_any v2 v3 n m f g w' (h2.kept hb) (h3.kept hb) hg (by omega))
  obtain ⟨ao2, cap2, rfl⟩ := h2.form
  obtain ⟨ao3, cap3, rfl⟩ := h3.form
  obtain ⟨ao7, cap7, rfl⟩ := h7.form
  obtain ⟨i0, hi0, hz0, hz1, hz2⟩ := info_parts info25
  obtain ⟨j0, hj0, hy0, hy1, hy2⟩ := info_parts info3
  obtain ⟨F, hF⟩ : ∃ F : Nat → Nat, F = fun j => lifeF (f j) (limF m g j) := ⟨_, rfl⟩
  have hFj : ∀ j, lifeF (f j) (limF m g j) = F j := fun j => by rw [hF]
  have hFw : ∀ j, Wd (F j) := fun j => by rw [hF]; exact (life_fine _ _).1
  have hlim : ∀ j, limF m g j ≤ 9223372036854775807 := fun j => by
    unfold limF; split
    · exact hg j (by assumption)
    · omega
  have w1 : IntKind.i64.wrap ((n : Int) + (m : Int)) = (n : Int) + m := by rw [IntKind.wrap_i64]; omega
  have w2 : IntKind.i64.wrap ((n : Int) + (m : Int) + (q : Int)) = (n : Int) + m + q := by rw [IntKind.wrap_i64]; omega
  have d1 : decide (500 < (n : Int) + (m : Int) + (q : Int)) = false := decide_eq_false (by omega)
  have KL := fun w => Lib.hid (life_any a0 a1 w ha1)
  have KR := fun w => Lib.hid (rlife_any a0 a1 w ha1)
  obtain ⟨dl, _, _, _⟩ := life_fine a0 a1
  have el := ecmp_self (lifeF a0 a1)
  generalize lifeF a0 a1 = la at KL KR dl el
  have H2 := Lib.hid h2
  have H3 := Lib.hid h3
  have H7 := Lib.hid h7
  have HF := Lib.hid hF
  have HFj := Lib.hid hFj
  have HFw := Lib.hid hFw
  have HL := Lib.hid hlim
  have HN := Lib.hid hs
  clear h2 h3 h7 hg ha1 hs hF hFj hFw hlim
  go_enter Try.func18, Try.ntmps18
  go_wp2_with fail
  go_loopw [17, 38] (fun s i wr => ∃ k : Nat, k ≤ n ∧ i = .int .i64 k ∧ wr.ownsRow w.heap.size 25 1 s k (rowF F k) ∧ (k = 0 → s = .slice none 0 0) ∧ Below w.heap.size w wr) (fun _ i _ => n - (intOf i).toNat)
  case atStart => exact ⟨0, by omega, rfl, World.ownsRow_nil _ _ _ _, fun _ => rfl, Below.refl _ _⟩
  case round =>
    obtain ⟨k, hk, rfl, o1, oz, ob⟩ := hrel
    have HO := Lib.hid o1
    have HB := Lib.hid ob
    have HZ := Lib.hid oz
    clear o1 ob oz
    by_cases hlt : k < n
    · have hltz : (k : Int) < (n : Int) := by omega
      have k0 : (0 : Int) ≤ (k : Int) := by omega
      have wk : IntKind.i64.wrap ((k : Int) + 1) = (k : Int) + 1 := by have := HN.out; rw [IntKind.wrap_i64]; omega
      rcases (H2.out.kept HB.out) with ⟨_, _, _, e⟩ | ⟨b1, o1, c1, e1, _, _, _, hI⟩
      · exfalso; omega
      obtain ⟨rfl, rfl⟩ : ao2 = some ⟨b1, o1, none⟩ ∧ cap2 = c1 := by simpa using e1
      have cJ := hI k hlt
      have hFk := HFj.out k
      have hlk := HL.out k
      have HLT := Lib.hid hlt
      clear hI e1 hlt hk
      by_cases hm : k < m
      · have hmz : (k : Int) < (m : Int) := by omega
        have dm : decide ((k : Int) < (m : Int)) = true := decide_eq_true hmz
        rcases (H3.out.kept HB.out) with ⟨_, _, _, e⟩ | ⟨b2, o2, c2, e2, _, _, _, hI⟩
        · exfalso; omega
        obtain ⟨rfl, rfl⟩ : ao3 = some ⟨b2, o2, none⟩ ∧ cap3 = c2 := by simpa using e2
        have cL := hI k hm
        have el : limF m g k = g k := by unfold limF; rw [if_pos hm]
        rw [el] at hFk hlk
        have LK := fun w => Lib.hid (rlife_any (f k) (g k) w hlk)
        rw [hFk] at LK
        clear hI e2 el hm hlk hFk
        go_wp2_with fail
        refine (LK _).out.mono ?_
        rintro _ _ ⟨rfl, rfl⟩
        go_wp2_with (at_builtin; refine wpList_append_lies _ rfl (.tmp 51) (.tmp 55) 60 rfl w.heap.size 25 i0 _ 1 8 Try.underlying60 hi0 hz0 hz1 hz2 rfl (by decide) _ k _ rfl (HO.out.alloc _) ⟨wr.heap.size, 0, none⟩ 1 1 [.float .f64 (F k)] rfl rfl (cell_one_new wr _ _) (by simp [Value.oneCell']) (by decide) (by have := HN.out; have := HLT.out; unfold maxLen; omega) (by have := HN.out; have := HLT.out; omega) (by have := HB.out.size; simp; omega) (wr.heap.size + 1) (by simp) ?_; intro gA cA wA hownA hgrowA hatA hltA)
        exact ⟨⟨k + 1, HLT.out, by simp, by rw [rowF_succ]; exact hownA, fun e => (by omega), below_own HB.out HB.out.size HO.out hgrowA⟩, by have := HLT.out; simp only [intOf]; omega⟩
      · have dm : decide ((k : Int) < (m : Int)) = false := decide_eq_false (by omega)
        have dmn : decide (k < m) = false := decide_eq_false hm
        have el : limF m g k = -1 := by unfold limF; rw [if_neg hm]
        rw [el] at hFk
        have LK := fun w => Lib.hid (rlife_any (f k) (-1) w (by decide))
        rw [hFk] at LK
        clear el hm hlk hFk
        go_wp2_with fail
        refine (LK _).out.mono ?_
        rintro _ _ ⟨rfl, rfl⟩
        go_wp2_with (at_builtin; refine wpList_append_lies _ rfl (.tmp 51) (.tmp 55) 60 rfl w.heap.size 25 i0 _ 1 8 Try.underlying60 hi0 hz0 hz1 hz2 rfl (by decide) _ k _ rfl (HO.out.alloc _) ⟨wr.heap.size, 0, none⟩ 1 1 [.float .f64 (F k)] rfl rfl (cell_one_new wr _ _) (by simp [Value.oneCell']) (by decide) (by have := HN.out; have := HLT.out; unfold maxLen; omega) (by have := HN.out; have := HLT.out; omega) (by have := HB.out.size; simp; omega) (wr.heap.size + 1) (by simp) ?_; intro gA cA wA hownA hgrowA hatA hltA)
        exact ⟨⟨k + 1, HLT.out, by simp, by rw [rowF_succ]; exact hownA, fun e => (by omega), below_own HB.out HB.out.size HO.out hgrowA⟩, by have := HLT.out; simp only [intOf]; omega⟩
    · have : k = n := by omega
      subst this
      have hltz : ¬ (k : Int) < (k : Int) := by omega
      have hsl := own_slF HO.out HZ.out
      obtain ⟨aoA, capA, rfl⟩ := hsl.form
      have HSL := Lib.hid hsl
      clear hlt hk hsl HO HZ
      go_wp2_with fail
      refine (KL _).out.mono ?_
      rintro _ _ ⟨rfl, e1, rfl⟩
      have HB1 := Lib.hid (below_drawn (n := e1) HB.out)
      have HSL1 : Hid (SlF (wr.drewN e1) (.slice aoA k capA) k F) := Lib.hid HSL.out
      generalize wr.drewN e1 = wb at HB1 HSL1 ⊢
      clear HB HSL
      go_wp2_with fail
      refine (KR _).out.mono ?_
      rintro _ _ ⟨rfl, rfl⟩
      go_wp2_with fail
      refine (same_any _ _ _ dl dl).mono ?_
      rintro _ _ ⟨rfl, rfl⟩
      go_wp2_with fail
      refine (KW.out _ HB1.out).mono ?_
      rintro _ wc ⟨rfl, hb2⟩
      have HB2 := Lib.hid (HB1.out.trans (hb2.mono HB1.out.size))
      have KM := Lib.hid (rmin_any wc _ k F (HSL1.out.kept hb2) HFw.out (by have := HN.out; omega))
      clear hb2 HSL1 HB1
      go_wp2_with fail
      refine KM.out.mono ?_
      rintro _ wd ⟨z, rfl, hb3, z0, z1⟩
      have HB3 := Lib.hid (HB2.out.trans (hb3.mono HB2.out.size))
      obtain ⟨s1, s2, s3⟩ := worst_same (f := f) (L := limF m g) z0 (by rw [HF.out] at z1; exact z1)
      generalize worstF f (limF m g) k = wf at s1 s2 ⊢
      clear hb3 z0 z1 KM HB2
      go_wp2_with fail
      refine (same_any _ _ _ s2 s3).mono ?_
      rintro _ _ ⟨rfl, rfl⟩
      rw [s1]
      go_wp2_with fail
      clear s1 s2 s3
      by_cases hlines : 1 ≤ a4 ∧ a4 ≤ 200
      · obtain ⟨N, rfl⟩ : ∃ N : Nat, a4 = N := ⟨a4.toNat, by omega⟩
        have hNb : 1 ≤ N ∧ N ≤ 200 := by omega
        have HNb := Lib.hid hNb
        have KN := Lib.hid (puts_new N wd hNb)
        clear hlines hNb
        refine KN.out.mono ?_
        rintro _ we ⟨Mb, Cb, rfl, hp, hb⟩
        have HP := Lib.hid (show PutsAt we w.heap.size Mb Cb N 0 (fun _ => 0) 0 from ⟨hp.hm, Nat.le_trans HB3.out.size hp.b1, Nat.le_trans HB3.out.size hp.b2, hp.hw, hp.hr⟩)
        have HB := Lib.hid (HB3.out.trans (hb.mono HB3.out.size))
        clear hp hb HB3 KN
        go_wp2_with fail
        go_loopw [79] (fun iv wr => ∃ i : Nat, i ≤ q ∧ iv = .int .i64 i ∧ (∃ wear writes, PutsAt wr w.heap.size Mb Cb N i wear writes) ∧ Below w.heap.size w wr) (fun iv _ => q - (intOf iv).toNat)
        case atStart => exact ⟨0, by omega, rfl, ⟨_, _, HP.out⟩, HB.out⟩
        case round =>
          obtain ⟨i, hi, rfl, ⟨wear, writes, hp⟩, hb⟩ := hrel
          clear HP HB
          have HP := Lib.hid hp
          have HB := Lib.hid hb
          clear hp hb
          by_cases hlt : i < q
          · have hltz : (i : Int) < (q : Int) := by omega
            have i0 : (0 : Int) ≤ (i : Int) := by omega
            have wi : IntKind.i64.wrap ((i : Int) + 1) = (i : Int) + 1 := by have := HN.out; rw [IntKind.wrap_i64]; omega
            rcases (H7.out.kept HB.out) with ⟨_, _, _, e⟩ | ⟨b1, o1, c1, e1, _, _, _, hI⟩
            · exfalso; omega
            obtain ⟨rfl, rfl⟩ : ao7 = some ⟨b1, o1, none⟩ ∧ cap7 = c1 := by simpa using e1
            have cJ := hI i hlt
            generalize p i = x at cJ
            have HLT := Lib.hid hlt
            clear hI e1 hlt hi
            by_cases hx : 0 ≤ x ∧ x < N
            · obtain ⟨pp, rfl⟩ : ∃ pp : Nat, x = pp := ⟨x.toNat, by omega⟩
              have KP := Lib.hid (puts_put HP.out (by have := HN.out; have := HLT.out; omega) HB.out.size pp (by omega) [0, 0, 0, 0, 0, 0, 0, 0] rfl)
              clear hx
              go_wp2_with fail
              refine KP.out.mono ?_
              rintro _ w5 ⟨rfl, hp5, hb5, _⟩
              have HP5 := Lib.hid hp5
              have HB5 := Lib.hid (HB.out.trans hb5)
              clear hp5 hb5 KP
              go_wp2_with fail
              exact ⟨⟨i + 1, HLT.out, by simp, ⟨_, _, HP5.out⟩, HB5.out⟩, by have := HLT.out; simp only [intOf]; omega⟩
            · have KP := Lib.hid (put_out HP.out.hm x (by omega) [0, 0, 0, 0, 0, 0, 0, 0])
              clear hx
              go_wp2_with fail
              refine KP.out.mono ?_
              rintro _ w5 ⟨rfl, hb5⟩
              have HP5 := Lib.hid (HP.out.below hb5)
              have HB5 := Lib.hid (HB.out.trans (hb5.mono HB.out.size))
              clear hb5 KP
              go_wp2_with fail
              exact ⟨⟨i + 1, HLT.out, by simp, ⟨_, _, HP5.out⟩, HB5.out⟩, by have := HLT.out; simp only [intOf]; omega⟩
          · have : i = q := by omega
            subst this
            have hltz : ¬ (i : Int) < (i : Int) := by omega
            obtain ⟨L, hL⟩ : ∃ L : Nat, max 0 a5 = (L : Int) := ⟨(max 0 a5).toNat, by omega⟩
            have eL : fromL a5 = L := by unfold fromL; omega
            obtain ⟨c, hc⟩ : ∃ c, cntL a5 a6 N = c := ⟨_, rfl⟩
            have hc2 : c = (min a6 (N : Int) - (L : Int)).toNat := by rw [← hc, ← hL, Int.max_comm]; rfl
            have HC := Lib.hid hc2
            have HEL := Lib.hid eL
            have HEC := Lib.hid hc
            clear hlt hi hc hc2 eL
            go_wp2_with fail
            go_loopw [24, 25] (fun s i wr2 => ∃ k pp : Nat, pp = L + k ∧ k ≤ c ∧ i = .int .i64 pp ∧ wr2.ownsRow wr.heap.size 3 1 s k (rowK (fun j => wear (L + j)) k) ∧ (k = 0 → s = .slice none 0 0) ∧ Below wr.heap.size wr wr2) (fun _ i _ => c - ((intOf i).toNat - L))
            case atStart => exact ⟨0, L, by omega, by omega, rfl, World.ownsRow_nil _ _ _ _, fun _ => rfl, Below.refl _ _⟩
            case round =>
              obtain ⟨k, pp, hp, hk, rfl, o1, oz, ob⟩ := hrel
              have HO := Lib.hid o1
              have HZ := Lib.hid oz
              have HBr := Lib.hid ob
              have HPP := Lib.hid hp
              clear o1 oz ob
              have KL := Lib.hid (lines_in (HP.out.hm.below HBr.out))
              by_cases hlt : k < c
              · have hc2 := HC.out
                have t1 : decide ((pp : Int) < a6) = true := decide_eq_true (by omega)
                have t2 : decide ((pp : Int) < (N : Int)) = true := decide_eq_true (by omega)
                have t2' : decide (pp < N) = true := decide_eq_true (by omega)
                have hpn : pp < N := by omega
                have KWr := Lib.hid (wear_in (HP.out.hm.below HBr.out) pp hpn)
                have wk : IntKind.i64.wrap ((pp : Int) + 1) = (pp : Int) + 1 := by have := HNb.out; rw [IntKind.wrap_i64]; omega
                have HLT := Lib.hid hlt
                have HPN := Lib.hid hpn
                clear hlt hk hp hc2 hpn
                go_wp2_with fail
                refine KL.out.mono ?_
                rintro _ _ ⟨rfl, rfl⟩
                go_wp2_with fail
                refine KWr.out.mono ?_
                rintro _ _ ⟨rfl, rfl⟩
                go_wp2_with (at_builtin; refine wpList_append_lies _ rfl (.tmp 101) (.tmp 105) 22 rfl _ 3 j0 _ 1 8 Try.underlying22 hj0 hy0 hy1 hy2 rfl (by decide) _ k _ rfl (HO.out.alloc _) ⟨wr.heap.size, 0, none⟩ 1 1 [.int .i64 (wear pp)] rfl rfl (cell_one_new _ _ _) (by simp [Value.oneCell']) (by decide) (by have := HNb.out; have := HPN.out; have := HPP.out; unfold maxLen; omega) (by have := HNb.out; have := HPN.out; have := HPP.out; omega) (by have := HBr.out.size; simp; omega) (wr.heap.size + 1) (by simp) ?_; intro gA cA wA hownA hgrowA hatA hltA)
                rw [HPP.out] at hownA
                exact ⟨⟨k + 1, pp + 1, by have := HPP.out; omega, HLT.out, by simp, by rw [rowK_succ]; exact hownA, fun e => (by omega), below_of HBr.out HBr.out.size HO.out hgrowA⟩, by have := HLT.out; have := HPP.out; simp only [intOf]; omega⟩
              · have hkc : k = c := by omega
                have hc2 := HC.out
                have hsl := row_slAt HO.out HZ.out
                obtain ⟨aow, capw, rfl⟩ := hsl.form
                have hm1 := HP.out.hm.below HBr.out
                have A1 := wears_in hm1 (by have := HNb.out; omega) a5 a6
                have A2 := fun w' (hb : Below _ _ w') => guneven_in (hm1.below hb) (by have := HNb.out; omega) a5 a6
                rw [HEC.out, HEL.out] at A1 A2
                rw [← hkc] at A1 A2
                have HB9 := Lib.hid (HB.out.trans (HBr.out.mono HB.out.size))
                have HSW := Lib.hid hsl
                have A1 := Lib.hid A1
                have A2 := Lib.hid A2
                have du := uneven_wd (fun j => wear (L + j)) k
                have eu := ecmp_self (unevenF (fun j => wear (L + j)) k)
                have HK : Hid (k ≤ 200) := Lib.hid (by have := HNb.out; omega)
                have tests : (decide ((pp : Int) < a6) = false) ∨ (decide ((pp : Int) < a6) = true ∧ decide ((pp : Int) < (N : Int)) = false ∧ decide (pp < N) = false) := by
                  by_cases h : (pp : Int) < a6
                  · exact Or.inr ⟨decide_eq_true h, decide_eq_false (by omega), decide_eq_false (by omega)⟩
                  · exact Or.inl (decide_eq_false h)
                clear hlt hk hp hc2 hkc hsl hm1
                rcases tests with t1 | ⟨t1, t2, t2'⟩
                · go_wp2_with fail
                  refine A1.out.mono ?_
                  rintro _ wf ⟨vv, rfl, hv, hb⟩
                  have HBf := Lib.hid hb
                  have KI := Lib.hid (ints_same wf vv _ k (fun j => wear (L + j)) hv (HSW.out.kept hb) (by have := HK.out; omega))
                  clear hv hb
                  go_wp2_with fail
                  refine KI.out.mono ?_
                  rintro _ _ ⟨rfl, dd, rfl⟩
                  have HBg := Lib.hid (below_drawn (n := dd) HBf.out)
                  go_wp2_with fail
                  refine (A2.out _ HBg.out).mono ?_
                  rintro _ wg ⟨rfl, hb⟩
                  have HBh := Lib.hid (HBg.out.trans (hb.mono HBg.out.size))
                  have KU := Lib.hid (runeven_sl (HSW.out.kept HBh.out) (by have := HK.out; omega))
                  clear hb
                  go_wp2_with fail
                  refine KU.out.mono ?_
                  rintro _ _ ⟨rfl, rfl⟩
                  go_wp2_with fail
                  refine (same_any _ _ _ du du).mono ?_
                  rintro _ _ ⟨rfl, rfl⟩
                  have HBi := Lib.hid (HB9.out.trans (HBh.out.mono HB9.out.size))
                  go_wp2_with fail
                  refine (awake22 _).mono ?_
                  rintro _ w9 ⟨rfl, hb⟩
                  go_wp2
                  go_ret
                  exact ⟨rfl, HBi.out.trans (hb.mono HBi.out.size)⟩
                · go_wp2_with fail
                  refine KL.out.mono ?_
                  rintro _ _ ⟨rfl, rfl⟩
                  go_wp2_with fail
                  refine A1.out.mono ?_
                  rintro _ wf ⟨vv, rfl, hv, hb⟩
                  have HBf := Lib.hid hb
                  have KI := Lib.hid (ints_same wf vv _ k (fun j => wear (L + j)) hv (HSW.out.kept hb) (by have := HK.out; omega))
                  clear hv hb
                  go_wp2_with fail
                  refine KI.out.mono ?_
                  rintro _ _ ⟨rfl, dd, rfl⟩
                  have HBg := Lib.hid (below_drawn (n := dd) HBf.out)
                  go_wp2_with fail
                  refine (A2.out _ HBg.out).mono ?_
                  rintro _ wg ⟨rfl, hb⟩
                  have HBh := Lib.hid (HBg.out.trans (hb.mono HBg.out.size))
                  have KU := Lib.hid (runeven_sl (HSW.out.kept HBh.out) (by have := HK.out; omega))
                  clear hb
                  go_wp2_with fail
                  refine KU.out.mono ?_
                  rintro _ _ ⟨rfl, rfl⟩
                  go_wp2_with fail
                  refine (same_any _ _ _ du du).mono ?_
                  rintro _ _ ⟨rfl, rfl⟩
                  have HBi := Lib.hid (HB9.out.trans (HBh.out.mono HB9.out.size))
                  go_wp2_with fail
                  refine (awake22 _).mono ?_
                  rintro _ w9 ⟨rfl, hb⟩
                  go_wp2
                  go_ret
                  exact ⟨rfl, HBi.out.trans (hb.mono HBi.out.size)⟩
      · have KN := Lib.hid (mnew_bad a4 none 0 0 wd (by omega))
        clear hlines
        refine KN.out.mono ?_
        rintro _ _ ⟨rfl, rfl⟩
        clear KN
        go_wp2_with fail
        go_loopw [79] (fun iv wr => ∃ i : Nat, i ≤ q ∧ iv = .int .i64 i ∧ Below w.heap.size w wr) (fun iv _ => q - (intOf iv).toNat)
        case atStart => exact ⟨0, by omega, rfl, HB3.out⟩
        case round =>
          obtain ⟨i, hi, rfl, hb⟩ := hrel
          clear HB3
          have HB := Lib.hid hb
          clear hb
          by_cases hlt : i < q
          · have hltz : (i : Int) < (q : Int) := by omega
            have i0 : (0 : Int) ≤ (i : Int) := by omega
            have wi : IntKind.i64.wrap ((i : Int) + 1) = (i : Int) + 1 := by have := HN.out; rw [IntKind.wrap_i64]; omega
            rcases (H7.out.kept HB.out) with ⟨_, _, _, e⟩ | ⟨b1, o1, c1, e1, _, _, _, hI⟩
            · exfalso; omega
            obtain ⟨rfl, rfl⟩ : ao7 = some ⟨b1, o1, none⟩ ∧ cap7 = c1 := by simpa using e1
            have cJ := hI i hlt
            generalize p i = x at cJ
            have HLT := Lib.hid hlt
            have KP := Lib.hid (put_none x [0, 0, 0, 0, 0, 0, 0, 0] wr)
            clear hI e1 hlt hi
            go_wp2_with fail
            refine KP.out.mono ?_
            rintro _ w5 ⟨rfl, hb5⟩
            have HB5 := Lib.hid (HB.out.trans (hb5.mono HB.out.size))
            clear hb5 KP
            go_wp2_with fail
            exact ⟨⟨i + 1, HLT.out, by simp, HB5.out⟩, by have := HLT.out; simp only [intOf]; omega⟩
          · have : i = q := by omega
            subst this
            have hltz : ¬ (i : Int) < (i : Int) := by omega
            obtain ⟨L, hL⟩ : ∃ L : Nat, max 0 a5 = (L : Int) := ⟨(max 0 a5).toNat, by omega⟩
            have tests : decide ((L : Int) < a6) = false ∨ decide ((L : Int) < a6) = true := by cases decide ((L : Int) < a6) <;> simp
            have l0 : decide ((L : Int) < 0) = false := decide_eq_false (by omega)
            have l0' : ¬ (L : Int) < 0 := by omega
            have dN : Wd NANW := by unfold Wd; decide
            have eN : ecmp NANW NANW = 0 := ecmp_self _
            clear hlt hi
            go_wp2_with fail
            go_loopw [24, 25] (fun s i wr2 => i = .int .i64 L ∧ s = .slice none 0 0 ∧ wr2 = wr) (fun _ _ _ => 0)
            case atStart => exact ⟨rfl, rfl, rfl⟩
            case round =>
              obtain ⟨rfl, rfl, rfl⟩ := hrel
              have KI := Lib.hid (ints_same wr (.slice none 0 0) (.slice none 0 0) 0 (fun _ => 0) (Or.inl ⟨none, 0, rfl, rfl⟩) (Or.inl ⟨none, 0, rfl, rfl⟩) (by decide))
              rcases tests with t1 | t1
              all_goals
                go_wp2_with (go_at_call 57; refine (lines_none _).mono ?_; rintro _ _ ⟨rfl, rfl⟩)
                refine (wears_none _ _ _).mono ?_
                rintro _ _ ⟨rfl, rfl⟩
                go_wp2_with fail
                refine KI.out.mono ?_
                rintro _ _ ⟨rfl, dd, rfl⟩
                go_wp2_with fail
                refine (guneven_none _ _ _).mono ?_
                rintro _ _ ⟨rfl, rfl⟩
                go_wp2_with fail
                refine (runeven_none _ _ _).mono ?_
                rintro _ _ ⟨rfl, rfl⟩
                go_wp2_with fail
                refine (same_any _ _ _ dN dN).mono ?_
                rintro _ _ ⟨rfl, rfl⟩
                have HBi := Lib.hid (below_drawn (n := dd) HB.out)
                go_wp2_with fail
                refine (awake22 _).mono ?_
                rintro _ w9 ⟨rfl, hb⟩
                go_wp2
                go_ret
                exact ⟨rfl, HBi.out.trans (hb.mono HBi.out.size)⟩

set_option maxRecDepth 100000 in
set_option maxHeartbeats 3200000 in
theorem forms_no (a0 a1 a4 a5 a6 : Int) (ao2 ao3 ao7 : Option Addr) (n m q c2 c3 c7 : Nat) (w : World) (hs : 500 < n + m + q) (hb : n ≤ 17592186044416 ∧ m ≤ 17592186044416 ∧ q ≤ 17592186044416) :
    Calls Try.prog 18 #[.int .i64 a0, .int .i64 a1, .slice ao2 n c2, .slice ao3 m c3, .int .i64 a4, .int .i64 a5, .int .i64 a6, .slice ao7 q c7] w fun e w' => e = .returned (.bool true) ∧ Below w.heap.size w w' := by
  have w1 : IntKind.i64.wrap ((n : Int) + (m : Int)) = (n : Int) + m := by rw [IntKind.wrap_i64]; omega
  have w2 : IntKind.i64.wrap ((n : Int) + (m : Int) + (q : Int)) = (n : Int) + m + q := by rw [IntKind.wrap_i64]; omega
  have d1 : decide (500 < (n : Int) + (m : Int) + (q : Int)) = true := decide_eq_true (by omega)
  clear hs hb
  go_enter Try.func18, Try.ntmps18
  go_wp2_with fail
  refine (awake22 _).mono ?_
  rintro _ w9 ⟨rfl, hb⟩
  go_wp2
  go_ret
  exact ⟨rfl, hb⟩
theorem gaugeForms_walk (a0 a1 : Int) (v2 : Value) (l2 : List Int) (v3 : Value) (l3 : List Int) (a4 a5 a6 : Int) (v7 : Value) (l7 : List Int) (w : World) (s2 : IntSlice w v2 l2) (_ : ∀ x ∈ l2, (Lit.int .i64 x).wf = true) (s3 : IntSlice w v3 l3) (g3 : ∀ x ∈ l3, (Lit.int .i64 x).wf = true) (s7 : IntSlice w v7 l7) (_ : ∀ x ∈ l7, (Lit.int .i64 x).wf = true)
    (_ : (Lit.int .i64 a0).wf = true) (h1 : (Lit.int .i64 a1).wf = true) (_ : (Lit.int .i64 a4).wf = true) (_ : (Lit.int .i64 a5).wf = true) (_ : (Lit.int .i64 a6).wf = true) (hb : l2.length ≤ 17592186044416 ∧ l3.length ≤ 17592186044416 ∧ l7.length ≤ 17592186044416) :
    Calls Try.prog 18 #[.int .i64 a0, .int .i64 a1, v2, v3, .int .i64 a4, .int .i64 a5, .int .i64 a6, v7] w fun e w' => e = .returned (.bool true) ∧ Below w.heap.size w w' := by
  by_cases h : 500 < l2.length + l3.length + l7.length
  · obtain ⟨ao2, c2, rfl⟩ := s2.slAt.form
    obtain ⟨ao3, c3, rfl⟩ := s3.slAt.form
    obtain ⟨ao7, c7, rfl⟩ := s7.slAt.form
    exact forms_no a0 a1 a4 a5 a6 ao2 ao3 ao7 _ _ _ c2 c3 c7 w h hb
  · exact forms_some a0 a1 a4 a5 a6 v2 v3 v7 _ _ _ _ _ _ w s2.slAt s3.slAt s7.slAt (fun j hj => getD_le g3 j hj) (wf_in h1).2 (by omega)
end Go.Proofs.Ytfhcgnkjncfeiaa
