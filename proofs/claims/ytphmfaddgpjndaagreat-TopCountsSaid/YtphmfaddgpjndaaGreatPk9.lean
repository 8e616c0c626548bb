/- Contracts and laws of their own, used by the claim's theorem: TopCounts: the walk. -/
import Derived.Test.YtphmfaddgpjndaaGreatPk8
namespace Go.Proofs.YtphmfaddgpjndaaGreat
open Go.ChangeShapes Go.WideShapes Go.RowKit Go.Maps

def op5 (n : Int) : Nat := (n % 18446744073709551616 % 5).toNat
theorem op5_eq (n : Int) : wrap64 ((IntKind.u64.wrap n).tmod 5) = ((op5 n : Nat) : Int) := by
  rw [mod_u n 5 (by decide)]
  unfold op5
  omega
theorem op5_le (n : Int) : op5 n ≤ 4 := by unfold op5; omega
theorem make_ints (n : Nat) (w : World) (h0 : 0 < n) (hn : n ≤ 1000) : ∃ w', (Instr.makeSlice 53 (.int .i64 (n : Int)) (.int .i64 (n : Int))).run Tryz.prog w = .ok (.slice (some ⟨w.heap.size, 0, none⟩) n n) w' ∧
    RowIn w' w.heap.size n (fun _ => 0) ∧ Below w.heap.size w w' := by
  obtain ⟨i0, hi0, hz0, hz1, hz2⟩ := info_parts' info3
  obtain ⟨w', h1, h2, h3⟩ := run_make_full (P := Tryz.prog) w w.heap.size 53 3 i0 _ 1 Tryz.underlying53 hi0 hz0 hz1 .i64 .i64 n (by rw [hz2]; omega) (by unfold maxLen; omega) (Nat.le_refl _)
  refine ⟨w', h1, ?_, (Below.refl _ _).grown h3 (Nat.le_refl _) (fun _ h => by cases h)⟩
  obtain ⟨cur, hg, hsz, hat⟩ := madeCells_at h2 h0 rfl (by decide)
  refine ⟨cur, hg, fun j hj => ?_⟩
  rw [hat j (by omega), show j % 1 = 0 by omega]
  rfl
theorem tw_counts {w : World} {TW : Nat} {b : HB} {p : Pl} {now : Nat → Int} {B : Bs} {W : Nat → Int} {r : Int} {X Y : Nat} (h : Tw w TW b p now B W r X Y) :
    Calls Tryz.prog 23 #[.pointer (some ⟨b.HP, 0, none⟩)] w fun e w' => ∃ v', e = .returned v' ∧ SlOf w' w.heap.size v' 1 p.pages (intF now) ∧ Below w.heap.size w w' := by
  obtain ⟨puts, m, kept, cost, h1, h2, h3, rfl, rfl, h6⟩ := h
  exact counts_any h2.hH h2.hC (by unfold Pl.pages; omega) (by have := h2.hp.hl; unfold Pl.pages; omega)
theorem Tw.nn {w : World} {TW : Nat} {b : HB} {p : Pl} {now : Nat → Int} {B : Bs} {W : Nat → Int} {r : Int} {X Y : Nat} (h : Tw w TW b p now B W r X Y) : ∀ j, j < p.pages → 0 ≤ now j ∧ now j ≤ X := by
  obtain ⟨puts, m, kept, cost, h1, h2, h3, rfl, rfl, h6⟩ := h
  exact fun j hj => by have := h2.nn j hj; omega
/-- a tower started anew lies in new blocks but for its memory -/
theorem fresh_list {b b' : HB} {TW base s : Nat} (h : ∀ x ∈ TW :: b.list, base ≤ x) (hs : base ≤ s) (h1 : b'.Mb = b.Mb) (h2 : b'.Cb = b.Cb) (hn : ∀ x ∈ [b'.HP, b'.TU, b'.LN, b'.LG, b'.C, b'.g1, b'.g2], s ≤ x) : ∀ x ∈ TW :: b'.list, base ≤ x := by
  intro x hx
  simp only [HB.list, List.mem_cons, List.not_mem_nil, or_false] at hx h hn
  rcases hx with rfl | rfl | rfl | rfl | rfl | rfl | rfl | rfl | rfl | rfl
  · exact h _ (by simp)
  · exact Nat.le_trans hs (hn _ (by simp))
  · exact h _ (by simp [h1])
  · exact h _ (by simp [h2])
  all_goals exact Nat.le_trans hs (hn _ (by simp))
theorem fresh_not {b b' : HB} {TW g s : Nat} (h : g ∉ TW :: b.list) (hs : g < s) (h1 : b'.Mb = b.Mb) (h2 : b'.Cb = b.Cb) (hn : ∀ x ∈ [b'.HP, b'.TU, b'.LN, b'.LG, b'.C, b'.g1, b'.g2], s ≤ x) : g ∉ TW :: b'.list := by
  have e1 := hn b'.HP (by simp)
  have e2 := hn b'.TU (by simp)
  have e3 := hn b'.LN (by simp)
  have e4 := hn b'.LG (by simp)
  have e5 := hn b'.C (by simp)
  have e6 := hn b'.g1 (by simp)
  have e7 := hn b'.g2 (by simp)
  intro hx
  simp only [HB.list, List.mem_cons, List.not_mem_nil, or_false, not_or] at hx h
  rcases hx with hx | hx | hx | hx | hx | hx | hx | hx | hx | hx
  · exact h.1 hx
  · omega
  · exact h.2.2.1 (hx.trans h1)
  · exact h.2.2.2.1 (hx.trans h2)
  all_goals omega

theorem sum_wrap {a b c : Int} (ha : 0 ≤ a ∧ a ≤ 10000000000) (hb : 0 ≤ b ∧ b ≤ 10000000000) (hc : 0 ≤ c ∧ c ≤ 10000000000) : wrap64 (a + wrap64 (b - c)) = a + (b - c) := by unfold wrap64; omega
theorem sub_wrap {B : Nat} (hb : 1 ≤ B ∧ B ≤ 100) : wrap64 ((B : Int) - 1) = ((B - 1 : Nat) : Int) := by unfold wrap64; omega
theorem mul_wrap {d B : Nat} (hd : d ≤ 4) (hb : 1 ≤ B ∧ B ≤ 100) : wrap64 ((d : Int) * ((B - 1 : Nat) : Int)) = ((d * (B - 1) : Nat) : Int) := by
  have h : d * (B - 1) ≤ 400 := Nat.le_trans (Nat.mul_le_mul hd (Nat.sub_le_of_le_add hb.2)) (by decide)
  rw [← Int.natCast_mul]
  generalize d * (B - 1) = x at h
  unfold wrap64; omega
theorem lag_le {d B : Nat} (h : d ≤ 4) (hB : B ≤ 100) : d * (B - 1) ≤ 400 := Nat.le_trans (Nat.mul_le_mul h (Nat.sub_le_of_le_add hB)) (by decide)
set_option maxRecDepth 100000 in
set_option maxHeartbeats 25600000 in
theorem counts_walk (l s q t : Int) (v : Value) (n : Int) {n0 : Nat} {op : Nat → OpN} {D : Nat → Value} (w : World) (hops : OpsIn w v n0 op D) : Calls Tryz.prog 6 #[.agg #[.int .i64 l, .int .i64 s, .int .i64 q, .int .i64 t], v, .int .i64 n] w fun e w' => e = .returned (.bool true) ∧ Below w.heap.size w w' := by
  have KS := fun w => small_any l s q t w
  have hpok := smallP_ok l s q t
  generalize smallP l s q t = P at KS hpok
  have KN := fun w => tnew_any (w := w) hpok
  have KPG := fun w => pages_any hpok w
  have hpg : ∃ x, (P.L - 1) / 4 + 1 = x ∧ P.pages = x ∧ 1 ≤ x ∧ x ≤ 16 := ⟨_, rfl, rfl, by omega, by have := hpok.hl; omega⟩
  have HPL := Lib.hid hpok.hl
  have HPB := Lib.hid hpok.hb
  unfold Pl.v at KS KN KPG
  have KS := Lib.hid KS
  have KN := Lib.hid KN
  obtain ⟨pg, hpg1, hpg2, hpg3, hpg4⟩ := hpg
  rw [hpg1] at KPG
  have KPG := Lib.hid KPG
  have HPG := Lib.hid (And.intro hpg2 (And.intro hpg3 hpg4))
  have KAW := Lib.hid (fun w => awake_any w)
  have hn := op5_eq n
  have hnl := op5_le n
  generalize op5 n = o5 at hn hnl
  have HO5 := Lib.hid hnl
  have hq := newA w (.cells #[.int .i64 l, .int .i64 s, .int .i64 q, .int .i64 t] 23)
  have HB0 := Lib.hid ((Below.refl w.heap.size w).alloc (Nat.le_refl _) (.cells #[.int .i64 l, .int .i64 s, .int .i64 q, .int .i64 t] 23))
  have HOPS := Lib.hid hops
  obtain ⟨ao, cap, rfl⟩ := hops.sl.form
  clear hnl hpok hops hpg1 hpg2 hpg3 hpg4
  go_enter Tryz.func6, Tryz.ntmps6
  go_wp2_with fail
  generalize w.alloc (.cells #[.int .i64 l, .int .i64 s, .int .i64 q, .int .i64 t] 23) = w0 at hq HB0 ⊢
  obtain ⟨p0, hp0⟩ : ∃ x, w.heap.size = x := ⟨_, rfl⟩
  have HP0 := Lib.hid hp0
  rw [hp0] at hq ⊢
  clear hp0
  have KHV := Lib.hid (heavy_any (HOPS.out.below HB0.out))
  refine KHV.out.mono ?_
  rintro _ w00 ⟨z, rfl, hb, hz⟩
  have hq0 := keep hb hq
  have HB00 := Lib.hid (HB0.out.trans (hb.mono HB0.out.size))
  clear hq hb HB0 KHV
  by_cases hz1 : 0 < z
  · clear hz
    go_wp2_with fail
    refine (KAW.out _).mono ?_
    rintro _ w1 ⟨rfl, hb⟩
    have HB1 := Lib.hid (HB00.out.trans (hb.mono HB00.out.size))
    clear hb
    go_wp2_with fail
    go_ret
    exact ⟨rfl, HB1.out⟩
  · obtain ⟨rfl, hn80, hk500⟩ := hz.resolve_left hz1
    have HN80 := Lib.hid hn80
    clear hz hz1 hk500 hn80
    have hql0 := lt_of_obj hq0
    go_wp2_with fail
    refine (KS.out _).mono ?_
    rintro _ w1 ⟨rfl, hb⟩
    have hq1 := keep hb hq0
    have hql := lt_of_obj hq1
    have HB1 := Lib.hid (HB00.out.trans (hb.mono HB00.out.size))
    have HQ1 := Lib.hid hq1
    clear hb hq0 KS HB00 hql0
    go_wp2_with fail
    have k5 : Kept [p0] w1 ((((w1.setCell ⟨p0, 0, none⟩ (.int .i64 P.L)).setCell ⟨p0, 1, none⟩ (.int .i64 P.S)).setCell ⟨p0, 2, none⟩ (.int .i64 P.P)).setCell ⟨p0, 3, none⟩ (.int .i64 P.B)) :=
      ((((Kept.refl [p0] w1).setCell (p := ⟨p0, 0, none⟩) _ (Or.inl (by simp))).setCell (p := ⟨p0, 1, none⟩) _ (Or.inl (by simp))).setCell (p := ⟨p0, 2, none⟩) _ (Or.inl (by simp))).setCell (p := ⟨p0, 3, none⟩) _ (Or.inl (by simp))
    have hq2 : obj ((((w1.setCell ⟨p0, 0, none⟩ (.int .i64 P.L)).setCell ⟨p0, 1, none⟩ (.int .i64 P.S)).setCell ⟨p0, 2, none⟩ (.int .i64 P.P)).setCell ⟨p0, 3, none⟩ (.int .i64 P.B)) p0 = some (.cells #[.int .i64 P.L, .int .i64 P.S, .int .i64 P.P, .int .i64 P.B] 23 (0, 0)) := by
      simp [obj_setCell_eq, hq1, setAt]
    have HB2 := Lib.hid (below_list HB1.out k5 (fun x hx => by have := HP0.out; simp at hx; omega))
    generalize (((w1.setCell ⟨p0, 0, none⟩ (.int .i64 P.L)).setCell ⟨p0, 1, none⟩ (.int .i64 P.S)).setCell ⟨p0, 2, none⟩ (.int .i64 P.P)).setCell ⟨p0, 3, none⟩ (.int .i64 P.B) = w2 at hq2 HB2 ⊢
    have hql2 := lt_of_obj hq2
    clear k5 hq1 hql HB1 HQ1
    rw [hn]
    refine (KN.out _).mono ?_
    rintro _ w3 ⟨TW, hb0, W0, rfl, htw, hW, hfr, hb⟩
    have HFR : Hid (∀ x ∈ TW :: hb0.list, w.heap.size ≤ x) := Lib.hid (fun x hx => Nat.le_trans HB2.out.size (hfr x hx))
    have HFP : Hid (p0 ∉ TW :: hb0.list) := Lib.hid (fun hx => by have := hfr p0 hx; omega)
    have HB3 := Lib.hid (HB2.out.trans (hb.mono HB2.out.size))
    have hqp := keep hb hq2
    have hqpl := lt_of_obj hqp
    have HTW3 := Lib.hid htw
    clear htw hW hfr hb KN hq2 hql2 HB2
    go_wp2_with fail
    refine (KPG.out _).mono ?_
    rintro _ w4 ⟨rfl, hb⟩
    have HTW4 := Lib.hid (HTW3.out.below hb)
    have HB4 := Lib.hid (HB3.out.trans (hb.mono HB3.out.size))
    have HQP4 := Lib.hid (keep hb hqp)
    clear hb hqp hqpl HTW3 HB3
    obtain ⟨w5, hmk, hro, hb5⟩ := make_ints pg w4 (by have := HPG.out; omega) (by have := HPG.out; omega)
    have HTW5 := Lib.hid (HTW4.out.below hb5)
    have HB5 := Lib.hid (HB4.out.trans (hb5.mono HB4.out.size))
    have HQP5 := Lib.hid (keep hb5 HQP4.out)
    obtain ⟨gR, hgR⟩ : ∃ x, w4.heap.size = x := ⟨_, rfl⟩
    have HGR : Hid (gR ∉ TW :: hb0.list ∧ gR ≠ p0 ∧ w.heap.size ≤ gR) := Lib.hid ⟨fun hx => by have := HTW4.out.lts gR hx; omega, fun e => by have := lt_of_obj HQP4.out; omega, by have := HB4.out.size; omega⟩
    rw [hgR] at hro hmk
    have HRO := Lib.hid hro
    clear hro hb5 hgR HTW4 HB4 HQP4
    go_wp2_with fail
    clear hmk
    go_loopw [44, 10] (fun ix dn wr => ∃ (i d : Nat) (b : HB) (B : Bs) (W : Nat → Int) (r : Int) (now real : Nat → Int), i ≤ n0 ∧ ix = .int .i64 i ∧ dn = .int .i64 d ∧ d ≤ o5 ∧ Tw wr TW b P now B W r (18 * i) (300 + 400 * i) ∧
        (∀ x ∈ TW :: b.list, w.heap.size ≤ x) ∧ p0 ∉ TW :: b.list ∧ gR ∉ TW :: b.list ∧ RowIn wr gR pg real ∧ obj wr p0 = some (.cells #[.int .i64 P.L, .int .i64 P.S, .int .i64 P.P, .int .i64 P.B] 23 (0, 0)) ∧ Below w.heap.size w wr ∧
        (∀ j, j < pg → now j ≤ real j ∧ real j - now j ≤ (d * (P.B - 1) : Nat))) (fun ix _ _ => n0 - (intOf ix).toNat)
    case atStart => exact ⟨0, 0, hb0, _, W0, 0, fun _ => 0, fun _ => 0, Nat.zero_le _, rfl, rfl, Nat.zero_le _, HTW5.out, HFR.out, HFP.out, HGR.out.1, HRO.out, HQP5.out, HB5.out, fun j hj => by simp⟩
    case round =>
      obtain ⟨i, d, b, B, W, r, now, real, hi, rfl, rfl, hd, htw, hfr, hfp, hfg, hro, hqp, hbl, hlag⟩ := hrel
      have HFR1 := Lib.hid (And.intro hfr (And.intro hfp hfg))
      have HRO1 := Lib.hid hro
      have HQP1 := Lib.hid hqp
      have HBL1 := Lib.hid hbl
      have HLAG := Lib.hid hlag
      have HTW := Lib.hid htw
      have HD := Lib.hid hd
      by_cases hlt : i < n0
      · have hltz : (i : Int) < (n0 : Int) := by omega
        have i0' : (0 : Int) ≤ (i : Int) := Int.natCast_nonneg i
        have wi : IntKind.i64.wrap ((i : Int) + 1) = (i : Int) + 1 := by rw [IntKind.wrap_i64]; have := HN80.out; omega
        obtain ⟨g, off, cap', e, _, _, hg, hrow⟩ := HOPS.out.row (by omega)
        obtain ⟨rfl, rfl⟩ : ao = some ⟨g, off, none⟩ ∧ cap = cap' := by simpa using e
        have hr := hrow i hlt
        rw [← obj_below hbl hg] at hr
        obtain ⟨aod, capd, hdd⟩ := (HOPS.out.da i hlt).form
        rw [hdd] at hr
        have hgw : g < wr.heap.size := by have := hbl.size; omega
        have HI := Lib.hid hlt
        have HDD := Lib.hid hdd
        clear hi hlt e hrow hbl hdd hd htw hfr hfp hfg hro hqp hlag
        by_cases h78 : (op i).kind = 7 ∨ (op i).kind = 8
        · rcases h78 with h7 | h7
          all_goals
            rw [h7] at hr
            go_wp2_with fail
            refine ⟨⟨i + 1, d, b, B, W, r, now, real, HI.out, by simp, rfl, HD.out, (HTW.out.below ((Below.refl _ _).alloc (Nat.le_refl _) _)).mono (by omega) (by omega), HFR1.out.1, HFR1.out.2.1, HFR1.out.2.2, HRO1.out.kept (below_kept ((Below.refl _ _).alloc (Nat.le_refl _) _)) (by simp), keepA _ HQP1.out, HBL1.out.alloc HBL1.out.size _, HLAG.out⟩, by have := HI.out; simp only [intOf]; omega⟩
        · have h7 : ¬ (op i).kind = 7 := fun e => h78 (Or.inl e)
          have h8 : ¬ (op i).kind = 8 := fun e => h78 (Or.inr e)
          have H78 := Lib.hid (And.intro h7 h8)
          have h7' : ((op i).kind == 7) = false := by simpa using h7
          have h8' : ((op i).kind == 8) = false := by simpa using h8
          have hqo := newA wr (.cells #[.int .i64 (op i).kind, .int .i64 (op i).off, .int .i64 (op i).n, .int .i64 (op i).mask, .slice aod (op i).k capd] 35)
          have HTW1 := Lib.hid (HTW.out.below ((Below.refl wr.heap.size wr).alloc (Nat.le_refl _) (.cells #[.int .i64 (op i).kind, .int .i64 (op i).off, .int .i64 (op i).n, .int .i64 (op i).mask, .slice aod (op i).k capd] 35)))
          have HRO2 := Lib.hid (HRO1.out.kept (below_kept ((Below.refl wr.heap.size wr).alloc (Nat.le_refl _) (.cells #[.int .i64 (op i).kind, .int .i64 (op i).off, .int .i64 (op i).n, .int .i64 (op i).mask, .slice aod (op i).k capd] 35))) (by simp))
          have HQP2 := Lib.hid (keepA (.cells #[.int .i64 (op i).kind, .int .i64 (op i).off, .int .i64 (op i).n, .int .i64 (op i).mask, .slice aod (op i).k capd] 35) HQP1.out)
          have HBL2 := Lib.hid (HBL1.out.alloc HBL1.out.size (.cells #[.int .i64 (op i).kind, .int .i64 (op i).off, .int .i64 (op i).n, .int .i64 (op i).mask, .slice aod (op i).k capd] 35))
          have HGO : Hid (wr.heap.size ∉ TW :: b.list) := Lib.hid (fun hx => by have := HTW.out.lts _ hx; omega)
          have HGO2 : Hid (w.heap.size ≤ wr.heap.size) := Lib.hid HBL1.out.size
          have KH := Lib.hid (tw_heap HTW1.out)
          have KC := Lib.hid (tw_counts HTW1.out)
          clear h78
          go_wp2_with fail
          generalize wr.alloc (.cells #[.int .i64 (op i).kind, .int .i64 (op i).off, .int .i64 (op i).n, .int .i64 (op i).mask, .slice aod (op i).k capd] 35) = wo at hqo HTW1 HRO2 HQP2 HBL2 KH KC ⊢
          obtain ⟨go, hgo⟩ : ∃ x, wr.heap.size = x := ⟨_, rfl⟩
          rw [hgo] at hqo HGO HGO2 ⊢
          have HQO := Lib.hid hqo
          clear hr hgo hqo hltz hgw
          refine KH.out.mono ?_
          rintro _ _ ⟨rfl, rfl⟩
          go_wp2_with fail
          refine KC.out.mono ?_
          rintro _ w1 ⟨v1, rfl, hs1, hb1⟩
          rw [HPG.out.1] at hs1
          have HBB := Lib.hid hb1
          have HLT1 := Lib.hid HTW1.out.lts
          have HTW2 := Lib.hid (HTW1.out.below hb1)
          have HRO3 := Lib.hid (HRO2.out.kept (below_kept hb1) (by simp))
          have HQP3 := Lib.hid (keep hb1 HQP2.out)
          have hqo3 := keep hb1 HQO.out
          have HQO3 := Lib.hid hqo3
          have HBL3 := Lib.hid (HBL2.out.trans (hb1.mono HBL2.out.size))
          have HS1 := Lib.hid hs1
          have HGL : Hid (gR < wo.heap.size) := Lib.hid (by obtain ⟨cc, hcc, _⟩ := HRO2.out; exact lt_of_obj hcc)
          have hda := (HOPS.out.below HBL3.out).da i HI.out
          rw [HDD.out] at hda
          have KD := Lib.hid (tdo_any HTW2.out (by have := HN80.out; have := HI.out; omega) (by have := HN80.out; have := HI.out; omega) (op i) H78.out.1 H78.out.2 hda (HOPS.out.by8 i HI.out))
          unfold opV at KD
          obtain ⟨ao1, cap1, rfl⟩ := hs1.form
          clear hb1 hda hs1 KC KH HTW1 HRO2 HQP2 HBL2 h7' h8' h7 h8
          go_wp2_with fail
          refine KD.out.mono ?_
          rintro _ w2 ⟨err, o, v2, W', W2, r', nn, c, B', now2, rfl, htw2, _, hle2, hsl2, _, hk2⟩
          have HLE := Lib.hid hle2
          have HTW3 := Lib.hid htw2
          have HRO4 := Lib.hid (HRO3.out.kept hk2 HFR1.out.2.2)
          have HQP4 := Lib.hid (hk2.keep HQP3.out HFR1.out.2.1)
          have HBL4 := Lib.hid (below_list HBL3.out hk2 HFR1.out.1)
          have HS2 := Lib.hid (HS1.out.kept hk2 HLT1.out)
          obtain ⟨ao2, cap2, rfl⟩ := hsl2.form
          have KH := Lib.hid (tw_heap htw2)
          have KC := Lib.hid (tw_counts htw2)
          unfold ansV
          clear hle2 htw2 hsl2 hk2 hqo3 KD HTW2 HRO3 HQP3 HBL3 HS1
          go_wp2_with fail
          refine KH.out.mono ?_
          rintro _ _ ⟨rfl, rfl⟩
          go_wp2_with fail
          refine KC.out.mono ?_
          rintro _ w3' ⟨v3, rfl, hs3, hb3⟩
          rw [HPG.out.1] at hs3
          have HTW4 := Lib.hid (HTW3.out.below hb3)
          have HRO5 := Lib.hid (HRO4.out.kept (below_kept hb3) (by simp))
          have HQP5' := Lib.hid (keep hb3 HQP4.out)
          have HBL5 := Lib.hid (HBL4.out.trans (hb3.mono HBL4.out.size))
          have HS3 := Lib.hid (HS2.out.below hb3)
          have HS4 := Lib.hid hs3
          obtain ⟨ao3, cap3, rfl⟩ := hs3.form
          have hg23 : gR < w2.heap.size := by obtain ⟨cc, hcc, _⟩ := HRO4.out; exact lt_of_obj hcc
          obtain ⟨g1, off1, cp1, e1, _, _, hg1, hc1⟩ := HS3.out.cells (by have := HPG.out; omega)
          obtain ⟨g3, off3, cp3, e3, _, _, hg3, hc3⟩ := hs3.cells (by have := HPG.out; omega)
          obtain ⟨rfl, rfl⟩ : ao1 = some ⟨g1, off1, none⟩ ∧ cap1 = cp1 := by simpa using e1
          obtain ⟨rfl, rfl⟩ : ao3 = some ⟨g3, off3, none⟩ ∧ cap3 = cp3 := by simpa using e3
          have HC1 := Lib.hid hc1
          have HC3 := Lib.hid hc3
          have HG13 : Hid (g1 ∉ [gR] ∧ g3 ∉ [gR]) := Lib.hid ⟨by have := HGL.out; simp; omega, by simp; omega⟩
          clear hb3 hs3 KC KH HTW3 HRO4 HQP4 HBL4 HS2 hg23 e1 e3 hg1 hg3 hc1 hc3
          go_wp2_with fail
          go_loopw [80] (fun kx wr' => ∃ k : Nat, k ≤ pg ∧ kx = .int .i64 k ∧ RowIn wr' gR pg (fun j => if j < k then real j + (now2 j - now j) else real j) ∧ Kept [gR] w3' wr') (fun kx _ => pg - (intOf kx).toNat)
          case atStart => exact ⟨0, Nat.zero_le _, rfl, HRO5.out, Kept.refl _ _⟩
          case round =>
            obtain ⟨k, hk, rfl, hrk, hkk⟩ := hrel
            have HRK := Lib.hid hrk
            have HKK := Lib.hid hkk
            by_cases hlk : k < pg
            · have hltk : (k : Int) < (pg : Int) := by omega
              have k0' : (0 : Int) ≤ (k : Int) := Int.natCast_nonneg k
              have hpg := HPG.out
              have wk : IntKind.i64.wrap ((k : Int) + 1) = (k : Int) + 1 := by rw [IntKind.wrap_i64]; omega
              have c1 := hkk.cell (HC1.out k hlk 0 (by decide)) HG13.out.1
              have c3 := hkk.cell (HC3.out k hlk 0 (by decide)) HG13.out.2
              rw [Nat.mul_one, Nat.add_zero] at c1 c3
              replace c1 : cellAt (obj wr g1) (off1 + k) = some (.int .i64 (now k)) := c1
              replace c3 : cellAt (obj wr g3) (off3 + k) = some (.int .i64 (now2 k)) := c3
              have l1 := lt_of_cell c1
              have l3 := lt_of_cell c3
              have cR : cellAt (obj wr gR) k = some (.int .i64 (real k)) := by
                obtain ⟨cc, hcc, hc2⟩ := hrk
                rw [hcc, cellAt_some, hc2 k hlk]
                show some (Value.int IntKind.i64 (if k < k then _ else real k)) = _
                rw [if_neg (Nat.lt_irrefl k)]
              have iR : iceAt (obj wr gR) k = false := by
                obtain ⟨cc, hcc, _⟩ := hrk
                rw [hcc]; exact iceAt_some ..
              have lR := lt_of_cell cR
              have hle : ¬ now2 k < now k := by have := HLE.out k (by omega); omega
              have hdl : decide (now2 k < now k) = false := decide_eq_false hle
              have HK := Lib.hid hlk
              clear hk hlk hrk hkk hpg hle
              go_wp2_with fail
              go_quiet (fail)
              go_wp2_with fail
              go_still_tail 15, (by kernel_rfl)
              go_wp2_with fail
              have hdb := lag_le (Nat.le_trans HD.out HO5.out) HPB.out.2
              have n1 := HTW.out.nn k (by rw [HPG.out.1]; exact HK.out)
              have n2 := HTW4.out.nn k (by rw [HPG.out.1]; exact HK.out)
              have n3 := HLAG.out k HK.out
              have n4 := HLE.out k (by rw [HPG.out.1]; exact HK.out)
              have hi80 := HN80.out
              have hi := HI.out
              have hsum := sum_wrap (a := real k) (b := now2 k) (c := now k) (by omega) (by omega) (by omega)
              rw [hsum]
              have hR : RowIn (wr.drewN (nq + 1)) gR pg (fun j => if j < k then real j + (now2 j - now j) else real j) := HRK.out
              refine ⟨⟨k + 1, HK.out, by simp, (hR.set k (real k + (now2 k - now k)) HK.out).congr (fun j hj => ?_), (HKK.out.drawn (nq + 1)).setCell _ (Or.inl (by simp))⟩, by have := HK.out; simp only [intOf]; omega⟩
              show (if j = k then real k + (now2 k - now k) else if j < k then real j + (now2 j - now j) else real j) = if j < k + 1 then real j + (now2 j - now j) else real j
              by_cases e : j = k
              · subst e; rw [if_pos rfl, if_pos (by omega)]
              · rw [if_neg e]
                by_cases e2 : j < k
                · rw [if_pos e2, if_pos (by omega)]
                · rw [if_neg e2, if_neg (by omega)]
            · obtain rfl : k = pg := by omega
              have hltk : ¬ (k : Int) < (k : Int) := by omega
              have HRF : Hid (RowIn wr gR k (fun j => real j + (now2 j - now j))) := Lib.hid (hrk.congr (fun j hj => by rw [if_pos hj]))
              have HTW5' := Lib.hid (HTW4.out.kept hkk (fun x hx hx2 => by simp at hx2; subst hx2; exact HFR1.out.2.2 hx))
              have HQP6 := Lib.hid (hkk.keep HQP5'.out (by simp; exact fun e => HGR.out.2.1 e.symm))
              have HBL6 := Lib.hid (below_list HBL5.out hkk (fun x hx => by simp at hx; subst hx; exact HGR.out.2.2))
              have hi80 := HN80.out
              have hi := HI.out
              obtain ⟨kept, htd, hkl⟩ := HTW5'.out.can (by omega)
              have KST := Lib.hid (tdo_start htd 0 0 0 (k := 0) (ao := none) (cap := 0))
              have HKL := Lib.hid hkl
              unfold opV at KST
              have hd4 := HD.out
              have ho5 := HO5.out
              have wd : IntKind.i64.wrap ((d : Int) + 1) = (d : Int) + 1 := by rw [IntKind.wrap_i64]; omega
              clear hk hlk hrk hkk hi80 hi htd hkl hd4 ho5
              go_wp2_with fail
              all_goals first
                | (refine ⟨⟨i + 1, d, b, B', W2, r', now2, fun j => real j + (now2 j - now j), HI.out, by simp, rfl, HD.out, HTW5'.out.mono (by omega) (by omega), HFR1.out.1, HFR1.out.2.1, HFR1.out.2.2, HRF.out, HQP6.out, HBL6.out, fun j hj => ?_⟩, by have := HI.out; simp only [intOf]; omega⟩
                   have := HLAG.out j hj
                   dsimp only
                   omega)
                | skip
              have hdo : d < o5 := by omega
              have HDO := Lib.hid hdo
              clear hdo
              refine KST.out.mono ?_
              rintro _ w6 ⟨b6, now6, rfl, hM6, hC6, htw6, hnow6, hnew6, hk6⟩
              have hsz6 : w.heap.size ≤ wr.heap.size := HBL6.out.size
              have hT6 : ∀ x ∈ [TW, b.Mb], w.heap.size ≤ x := fun x hx => by
                simp only [List.mem_cons, List.not_mem_nil, or_false] at hx
                rcases hx with rfl | rfl
                · exact HFR1.out.1 _ (by simp)
                · exact HFR1.out.1 _ (by simp [HB.list])
              have hgR6 : gR ∉ [TW, b.Mb] := fun hx => HFR1.out.2.2 (by
                simp only [List.mem_cons, List.not_mem_nil, or_false] at hx
                rcases hx with rfl | rfl
                · simp
                · simp [HB.list])
              have hp06 : p0 ∉ [TW, b.Mb] := fun hx => HFR1.out.2.1 (by
                simp only [List.mem_cons, List.not_mem_nil, or_false] at hx
                rcases hx with rfl | rfl
                · simp
                · simp [HB.list])
              have hgl6 : gR < wr.heap.size := by obtain ⟨cc, hcc, _⟩ := HRF.out; exact lt_of_obj hcc
              have hpl6 : p0 < wr.heap.size := lt_of_obj HQP6.out
              have HEND := Lib.hid (And.intro htw6 (And.intro (fresh_list HFR1.out.1 hsz6 hM6 hC6 hnew6) (And.intro (fresh_not HFR1.out.2.1 hpl6 hM6 hC6 hnew6) (And.intro (fresh_not HFR1.out.2.2 hgl6 hM6 hC6 hnew6) (And.intro (HRF.out.kept hk6 hgR6) (And.intro (hk6.keep HQP6.out hp06) (below_list HBL6.out hk6 hT6)))))))
              have HNOW := Lib.hid hnow6
              unfold ansV
              clear htw6 hnow6 hnew6 hk6 hM6 hC6 hsz6 hT6 hgR6 hp06 hgl6 hpl6
              go_wp2_with fail
              refine ⟨⟨i + 1, d + 1, b6, B', W2, r', now6, fun j => real j + (now2 j - now j), HI.out, by simp, by simp, HDO.out, HEND.out.1.mono (by omega) (by omega), HEND.out.2.1, HEND.out.2.2.1, HEND.out.2.2.2.1, HEND.out.2.2.2.2.1, HEND.out.2.2.2.2.2.1, HEND.out.2.2.2.2.2.2, fun j hj => ?_⟩, by have := HI.out; simp only [intOf]; omega⟩
              have g1 := HLAG.out j hj
              have g2 := HNOW.out j (by rw [HPG.out.1]; exact hj)
              have g3 := HKL.out j (by rw [HPG.out.1]; exact hj)
              have g4 := HPB.out.1
              rw [Nat.succ_mul, g2]
              dsimp only
              omega
      · obtain rfl : i = n0 := by omega
        have hltz : ¬ (i : Int) < (i : Int) := by omega
        have hi80 := HN80.out
        have KH := Lib.hid (tw_heap htw)
        have KC := Lib.hid (tw_counts htw)
        have HLT := Lib.hid htw.lts
        have hgl : gR < wr.heap.size := by obtain ⟨cc, hcc, _⟩ := HRO1.out; exact lt_of_obj hcc
        have HGL := Lib.hid hgl
        clear hi hlt htw hfr hfp hfg hro hqp hbl hlag hi80 hd hgl
        go_wp2_with fail
        refine KH.out.mono ?_
        rintro _ _ ⟨rfl, rfl⟩
        go_wp2_with fail
        refine KC.out.mono ?_
        rintro _ w1 ⟨v1, rfl, hs1, hb1⟩
        rw [HPG.out.1] at hs1
        have HTW2 := Lib.hid (HTW.out.below hb1)
        have HRO2 := Lib.hid (HRO1.out.kept (below_kept hb1) (by simp))
        have HQP2 := Lib.hid (keep hb1 HQP1.out)
        have HBL2 := Lib.hid (HBL1.out.trans (hb1.mono HBL1.out.size))
        have HS1 := Lib.hid hs1
        obtain ⟨g1, off1, cap1, rfl, _, _, hg1, hc1⟩ := hs1.cells (by have := HPG.out; omega)
        have HC1 := Lib.hid hc1
        clear hs1 hb1 hc1 hg1 KH KC
        go_wp2_with fail
        go_loopw [127] (fun kx wq => ∃ k : Nat, k ≤ pg ∧ kx = .int .i64 k ∧ Below w1.heap.size w1 wq) (fun kx _ => pg - (intOf kx).toNat)
        case atStart => exact ⟨0, Nat.zero_le _, rfl, Below.refl _ _⟩
        case round =>
          obtain ⟨k, hk, rfl, hbk⟩ := hrel
          have HBK := Lib.hid hbk
          by_cases hlk : k < pg
          · have hltk : (k : Int) < (pg : Int) := by omega
            have k0' : (0 : Int) ≤ (k : Int) := Int.natCast_nonneg k
            have hpg := HPG.out
            have wk : IntKind.i64.wrap ((k : Int) + 1) = (k : Int) + 1 := by rw [IntKind.wrap_i64]; omega
            have c1 := (below_kept hbk).cell (HC1.out k hlk 0 (by decide)) (by simp)
            rw [Nat.mul_one, Nat.add_zero] at c1
            replace c1 : cellAt (obj wr g1) (off1 + k) = some (.int .i64 (now k)) := c1
            have l1 := lt_of_cell c1
            have cR : cellAt (obj wr gR) k = some (.int .i64 (real k)) := by
              obtain ⟨cc, hcc, hc2⟩ := HRO2.out.kept (below_kept hbk) (by simp)
              rw [hcc, cellAt_some, hc2 k hlk]
            have lR := lt_of_cell cR
            have hqp := keep hbk HQP2.out
            have lP := lt_of_obj hqp
            have hw1 := sub_wrap (hb := HPB.out)
            have hw2 := mul_wrap (d := d) (hd := Nat.le_trans HD.out HO5.out) (hb := HPB.out)
            have n1 := HTW.out.nn k (by rw [HPG.out.1]; exact hlk)
            have n3 := HLAG.out k hlk
            have hi80 := HN80.out
            have hdb := lag_le (Nat.le_trans HD.out HO5.out) HPB.out.2
            have hw3 : wrap64 (real k - now k) = real k - now k := by unfold wrap64; omega
            have hd1 : decide (now k > real k) = false := decide_eq_false (by omega)
            have hd2 : decide ((d : Int) * ((P.B - 1 : Nat) : Int) < real k - now k) = false := decide_eq_false (by rw [← Int.natCast_mul]; omega)
            have HK := Lib.hid hlk
            clear hk hlk hbk hpg n1 n3 hi80 hdb
            go_wp2_with fail
            go_quiet (fail)
            go_wp2_with fail
            exact ⟨⟨k + 1, HK.out, by simp, Below.drawn' HBK.out _⟩, by have := HK.out; simp only [intOf]; omega⟩
          · obtain rfl : k = pg := by omega
            have hltk : ¬ (k : Int) < (k : Int) := by omega
            have HTW3 := Lib.hid (HTW2.out.below hbk)
            have HBL3 := Lib.hid (HBL2.out.trans (hbk.mono HBL2.out.size))
            have HS2 := Lib.hid (HS1.out.below hbk)
            have KH := Lib.hid (tw_heap HTW3.out)
            have KC := Lib.hid (tw_counts HTW3.out)
            clear hk hlk hbk
            go_wp2_with fail
            refine KH.out.mono ?_
            rintro _ _ ⟨rfl, rfl⟩
            go_wp2_with fail
            refine KC.out.mono ?_
            rintro _ w5' ⟨v5, rfl, hs5, hb5⟩
            rw [HPG.out.1] at hs5
            have HBL4 := Lib.hid (HBL3.out.trans (hb5.mono HBL3.out.size))
            have KI := Lib.hid (ints_alike ((HS2.out.below hb5).mono (Nat.zero_le _)) (hs5.mono (Nat.zero_le _)) (by have := HPG.out; omega))
            obtain ⟨ao5, cap5, rfl⟩ := hs5.form
            clear hs5 hb5 KH KC
            go_wp2_with fail
            refine KI.out.mono ?_
            rintro _ w6 ⟨rfl, hb6⟩
            have HBL5 := Lib.hid (HBL4.out.trans (hb6.mono HBL4.out.size))
            clear hb6
            go_wp2_with fail
            refine (KAW.out _).mono ?_
            rintro _ w7 ⟨rfl, hb7⟩
            have HBL6 := Lib.hid (HBL5.out.trans (hb7.mono HBL5.out.size))
            clear hb7
            go_wp2_with fail
            go_ret
            exact ⟨rfl, HBL6.out⟩
end Go.Proofs.YtphmfaddgpjndaaGreat
