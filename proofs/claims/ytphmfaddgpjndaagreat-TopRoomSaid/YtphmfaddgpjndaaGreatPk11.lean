/- Contracts and laws of their own, used by the claim's theorem: TopRoom: the walk. -/
import Derived.Test.YtphmfaddgpjndaaGreatPk8
import Derived.Test.YtphmfaddgpjndaaGreatPk10
namespace Go.Proofs.YtphmfaddgpjndaaGreat
open Go.ChangeShapes Go.WideShapes Go.RowKit Go.Maps

theorem runN_used {b : Bs} {k : Nat} (h : b.us k = true) : runN b (k + 1) = runN b k := by
  show (if b.us k = false then _ else _) = _
  rw [if_neg (by rw [h]; simp)]
theorem runN_free {b : Bs} {k : Nat} (h : b.us k = false) : runN b (k + 1) = max (runN b k) (b.sz k) := by
  show (if b.us k = false then _ else _) = _
  rw [if_pos h]
theorem leastN_used {b : Bs} {nd k : Nat} (h : b.us k = true) : leastN b nd (k + 1) = leastN b nd k := by
  show (if b.us k = false ∧ _ then _ else _) = _
  rw [if_neg (by rw [h]; simp)]
theorem leastN_free {b : Bs} {nd k : Nat} (h : b.us k = false) (h1 : nd ≤ b.sz k) (h2 : leastN b nd k = 0 ∨ b.sz k < leastN b nd k) : leastN b nd (k + 1) = b.sz k := by
  show (if b.us k = false ∧ _ then _ else _) = _
  rw [if_pos ⟨h, h1, h2⟩]
theorem leastN_not {b : Bs} {nd k : Nat} (h : ¬ (nd ≤ b.sz k ∧ (leastN b nd k = 0 ∨ b.sz k < leastN b nd k))) : leastN b nd (k + 1) = leastN b nd k := by
  show (if b.us k = false ∧ _ then _ else _) = _
  rw [if_neg (fun hh => h hh.2)]

theorem Did.same {B B' : Bs} {W W' : Nat → Int} {r r' : Int} {op : OpN} {err o : Int} {n : Nat} {c : Nat → Int} (h : Did B W r op err o W' r' n c B') (he : err ≠ 0) : W' = W ∧ r' = r ∧ B' = B := by
  cases h <;> first | exact ⟨rfl, rfl, rfl⟩ | exact absurd rfl he
theorem Did.arg {B B' : Bs} {W W' : Nat → Int} {r r' : Int} {op : OpN} {err o : Int} {n : Nat} {c : Nat → Int} (h : Did B W r op err o W' r' n c B') (hk : op.kind = 1) (h0 : needN op.n = 0) : err = 1 := by
  cases h
  case allocArg => rfl
  case allocNone h _ => exact absurd h0 h
  case allocOk h _ _ _ => exact absurd h0 h
  all_goals (exfalso; omega)
set_option maxRecDepth 100000 in
set_option maxHeartbeats 25600000 in
theorem room_walk (l s q t : Int) (v : Value) {n0 : Nat} {op : Nat → OpN} {D : Nat → Value} (w : World) (hops : OpsIn w v n0 op D) : Calls Tryz.prog 4 #[.agg #[.int .i64 l, .int .i64 s, .int .i64 q, .int .i64 t], v] w fun e w' => e = .returned (.bool true) ∧ Below w.heap.size w w' := by
  have KS := fun w => small_any l s q t w
  have hpok := smallP_ok l s q t
  generalize smallP l s q t = P at KS hpok
  have KN := fun w => tnew_any (w := w) hpok
  have HPL := Lib.hid hpok.hl
  obtain ⟨N8, hN8⟩ : ∃ x, P.L * 8 = x := ⟨_, rfl⟩
  have KNM : ∀ w, Calls Tryz.prog 12 #[.int .i64 (N8 : Int)] w fun e w' => ∃ M, e = .returned (.pointer (some ⟨M, 0, none⟩)) ∧ MAt w' w.heap.size M (P.L * 8) (firstW (P.L * 8)) 0 ∧ Below w.heap.size w w' := fun w => by
    subst hN8
    exact rnew_any w P.L hpok.hl
  have KNM := Lib.hid KNM
  have w8 : IntKind.i64.wrap ((P.L : Int) * 8) = (N8 : Int) := by have := hpok.hl; rw [IntKind.wrap_i64]; omega
  unfold Pl.v at KS KN
  have KS := Lib.hid KS
  have KN := Lib.hid KN
  have KAW := Lib.hid (fun w => awake_any w)
  have hq := newA w (.cells #[.int .i64 l, .int .i64 s, .int .i64 q, .int .i64 t] 23)
  have HB0 := Lib.hid ((Below.refl w.heap.size w).alloc (Nat.le_refl _) (.cells #[.int .i64 l, .int .i64 s, .int .i64 q, .int .i64 t] 23))
  have HOPS := Lib.hid hops
  obtain ⟨ao, cap, rfl⟩ := hops.sl.form
  clear hpok hops hN8
  go_enter Tryz.func4, Tryz.ntmps4
  go_wp2_with fail
  generalize w.alloc (.cells #[.int .i64 l, .int .i64 s, .int .i64 q, .int .i64 t] 23) = w0 at hq HB0 ⊢
  obtain ⟨p0, hp0⟩ : ∃ x, w.heap.size = x := ⟨_, rfl⟩
  have HP0 := Lib.hid hp0
  rw [hp0] at hq ⊢
  clear hp0
  have KHV := Lib.hid (heavy_any (HOPS.out.below HB0.out))
  refine KHV.out.mono ?_
  rintro _ w00 ⟨z, rfl, hb, hz⟩
  have hq0 := keep hb hq
  have HB00 := Lib.hid (HB0.out.trans (hb.mono HB0.out.size))
  clear hq hb HB0 KHV
  by_cases hz1 : 0 < z
  · clear hz
    go_wp2_with fail
    refine (KAW.out _).mono ?_
    rintro _ w1 ⟨rfl, hb⟩
    have HB1 := Lib.hid (HB00.out.trans (hb.mono HB00.out.size))
    clear hb
    go_wp2_with fail
    go_ret
    exact ⟨rfl, HB1.out⟩
  · obtain ⟨rfl, hn80, hk500⟩ := hz.resolve_left hz1
    have HN80 := Lib.hid hn80
    clear hz hz1 hk500 hn80
    have hql0 := lt_of_obj hq0
    go_wp2_with fail
    refine (KS.out _).mono ?_
    rintro _ w1 ⟨rfl, hb⟩
    have hq1 := keep hb hq0
    have hql := lt_of_obj hq1
    have HB1 := Lib.hid (HB00.out.trans (hb.mono HB00.out.size))
    have HQ1 := Lib.hid hq1
    clear hb hq0 KS HB00 hql0
    go_wp2_with fail
    have k5 : Kept [p0] w1 ((((w1.setCell ⟨p0, 0, none⟩ (.int .i64 P.L)).setCell ⟨p0, 1, none⟩ (.int .i64 P.S)).setCell ⟨p0, 2, none⟩ (.int .i64 P.P)).setCell ⟨p0, 3, none⟩ (.int .i64 P.B)) :=
      ((((Kept.refl [p0] w1).setCell (p := ⟨p0, 0, none⟩) _ (Or.inl (by simp))).setCell (p := ⟨p0, 1, none⟩) _ (Or.inl (by simp))).setCell (p := ⟨p0, 2, none⟩) _ (Or.inl (by simp))).setCell (p := ⟨p0, 3, none⟩) _ (Or.inl (by simp))
    have hq2 : obj ((((w1.setCell ⟨p0, 0, none⟩ (.int .i64 P.L)).setCell ⟨p0, 1, none⟩ (.int .i64 P.S)).setCell ⟨p0, 2, none⟩ (.int .i64 P.P)).setCell ⟨p0, 3, none⟩ (.int .i64 P.B)) p0 = some (.cells #[.int .i64 P.L, .int .i64 P.S, .int .i64 P.P, .int .i64 P.B] 23 (0, 0)) := by
      simp [obj_setCell_eq, hq1, setAt]
    have HB2 := Lib.hid (below_list HB1.out k5 (fun x hx => by have := HP0.out; simp at hx; omega))
    generalize (((w1.setCell ⟨p0, 0, none⟩ (.int .i64 P.L)).setCell ⟨p0, 1, none⟩ (.int .i64 P.S)).setCell ⟨p0, 2, none⟩ (.int .i64 P.P)).setCell ⟨p0, 3, none⟩ (.int .i64 P.B) = w2 at hq2 HB2 ⊢
    have hql2 := lt_of_obj hq2
    clear k5 hq1 hql HB1 HQ1
    refine (KN.out _).mono ?_
    rintro _ w3 ⟨TW, hb0, W0, rfl, htw, hW, hfr, hb⟩
    have HFR : Hid (∀ x ∈ TW :: hb0.list, w.heap.size ≤ x) := Lib.hid (fun x hx => Nat.le_trans HB2.out.size (hfr x hx))
    have HB3 := Lib.hid (HB2.out.trans (hb.mono HB2.out.size))
    have hqp := keep hb hq2
    have hqpl := lt_of_obj hqp
    have HTW3 := Lib.hid htw
    have HW0 := Lib.hid hW
    clear htw hW hfr hb KN hq2 hql2 HB2
    go_wp2_with fail
    refine (KNM.out _).mono ?_
    rintro _ w4 ⟨M0, rfl, hm0, hb⟩
    have HTW4 := Lib.hid (HTW3.out.below hb)
    have HB4 := Lib.hid (HB3.out.trans (hb.mono HB3.out.size))
    obtain ⟨Bm, hBm⟩ : ∃ x, w3.heap.size = x := ⟨_, rfl⟩
    rw [hBm] at hm0
    have HBM : Hid (∀ x ∈ TW :: hb0.list, x < Bm) := Lib.hid (fun x hx => by have := HTW3.out.lts x hx; omega)
    have HBW : Hid (w.heap.size ≤ Bm) := Lib.hid (by have := HB3.out.size; omega)
    have HM4 : Hid (MAt w4 Bm M0 (P.L * 8) W0 0) := Lib.hid (hm0.congr (fun i hi => (HW0.out i hi).symm))
    have HBM4 : Hid (Bm ≤ w4.heap.size) := Lib.hid (by have := hb.size; omega)
    clear hb hqp hqpl HTW3 HB3 hm0 hBm HW0 KNM w8
    go_wp2_with fail
    go_loopw [42, 7] (fun ix mv wr => ∃ (i M : Nat) (B : Bs) (W : Nat → Int) (r : Int) (now : Nat → Int), i ≤ n0 ∧ ix = .int .i64 i ∧ mv = .pointer (some ⟨M, 0, none⟩) ∧ Tw wr TW hb0 P now B W r (9 * i) (300 + 200 * i) ∧
        MAt wr Bm M (P.L * 8) W r ∧ Bm ≤ wr.heap.size ∧ Below w.heap.size w wr) (fun ix _ _ => n0 - (intOf ix).toNat)
    case atStart => exact ⟨0, M0, _, W0, 0, fun _ => 0, Nat.zero_le _, rfl, rfl, HTW4.out, HM4.out, HBM4.out, HB4.out⟩
    case round =>
      obtain ⟨i, M, B, W, r, now, hi, rfl, rfl, htw, hm, hbm, hbl⟩ := hrel
      have HTW := Lib.hid htw
      have HM := Lib.hid hm
      have HBL := Lib.hid hbl
      have HBMW := Lib.hid hbm
      by_cases hlt : i < n0
      · have hltz : (i : Int) < (n0 : Int) := by omega
        have i0' : (0 : Int) ≤ (i : Int) := Int.natCast_nonneg i
        have wi : IntKind.i64.wrap ((i : Int) + 1) = (i : Int) + 1 := by rw [IntKind.wrap_i64]; have := HN80.out; omega
        obtain ⟨g, off, cap', e, _, _, hg, hrow⟩ := HOPS.out.row (by omega)
        obtain ⟨rfl, rfl⟩ : ao = some ⟨g, off, none⟩ ∧ cap = cap' := by simpa using e
        have hr := hrow i hlt
        rw [← obj_below hbl hg] at hr
        obtain ⟨aod, capd, hdd⟩ := (HOPS.out.da i hlt).form
        rw [hdd] at hr
        have hgw : g < wr.heap.size := by have := hbl.size; omega
        have HI := Lib.hid hlt
        have HDD := Lib.hid hdd
        clear hi hlt e hrow hbl hdd htw hm hbm
        by_cases h78 : (op i).kind = 7 ∨ (op i).kind = 8
        · rcases h78 with h7 | h7
          all_goals
            rw [h7] at hr
            go_wp2_with fail
            refine ⟨⟨i + 1, M, B, W, r, now, HI.out, by simp, rfl, (HTW.out.below ((Below.refl _ _).alloc (Nat.le_refl _) _)).mono (by omega) (by omega), HM.out.below ((Below.refl _ _).alloc (Nat.le_refl _) _), by have := HBMW.out; simp; omega, HBL.out.alloc HBL.out.size _⟩, by have := HI.out; simp only [intOf]; omega⟩
        · have h7 : ¬ (op i).kind = 7 := fun e => h78 (Or.inl e)
          have h8 : ¬ (op i).kind = 8 := fun e => h78 (Or.inr e)
          have H78 := Lib.hid (And.intro h7 h8)
          have h7' : ((op i).kind == 7) = false := by simpa using h7
          have h8' : ((op i).kind == 8) = false := by simpa using h8
          have hqo := newA wr (.cells #[.int .i64 (op i).kind, .int .i64 (op i).off, .int .i64 (op i).n, .int .i64 (op i).mask, .slice aod (op i).k capd] 35)
          have hb1 := (Below.refl wr.heap.size wr).alloc (Nat.le_refl _) (.cells #[.int .i64 (op i).kind, .int .i64 (op i).off, .int .i64 (op i).n, .int .i64 (op i).mask, .slice aod (op i).k capd] 35)
          have HTW1 := Lib.hid (HTW.out.below hb1)
          have HM1 := Lib.hid (HM.out.below hb1)
          have HBL1 := Lib.hid (HBL.out.alloc HBL.out.size (.cells #[.int .i64 (op i).kind, .int .i64 (op i).off, .int .i64 (op i).n, .int .i64 (op i).mask, .slice aod (op i).k capd] 35))
          have HGO : Hid (Bm ≤ wr.heap.size) := HBMW
          have HST := Lib.hid HTW.out.st
          have KMB := Lib.hid (rmblocks_any HM1.out HST.out.hB HST.out.he)
          have hqol := lt_of_obj hqo
          clear h78 hb1
          go_wp2_with fail
          generalize wr.alloc (.cells #[.int .i64 (op i).kind, .int .i64 (op i).off, .int .i64 (op i).n, .int .i64 (op i).mask, .slice aod (op i).k capd] 35) = wo at hqo hqol HTW1 HM1 HBL1 KMB ⊢
          obtain ⟨go, hgo⟩ : ∃ x, wr.heap.size = x := ⟨_, rfl⟩
          rw [hgo] at hqo hqol HGO ⊢
          clear hr hgo hltz hgw h7' h8' h7 h8
          refine KMB.out.mono ?_
          rintro _ w1 ⟨v1, rfl, hr1, hb1⟩
          have hcn := HST.out.hB.count
          obtain ⟨g1, off1, cap1, rfl, _, _, _, hg1, hrow1, _⟩ := blk_row hr1 (by omega)
          have HROW1 := Lib.hid hrow1
          have HG1 := Lib.hid hg1
          have HQO1 := Lib.hid (keep hb1 hqo)
          have HTW2 := Lib.hid (HTW1.out.below hb1)
          have HM2 := Lib.hid (HM1.out.below hb1)
          have HBL2 := Lib.hid (HBL1.out.trans (hb1.mono HBL1.out.size))
          have HCN := Lib.hid hcn
          obtain ⟨nd, hnd⟩ : ∃ x, needN (op i).n = x := ⟨_, rfl⟩
          have KND := fun w => need_any (op i).n w
          rw [hnd] at KND
          have KND := Lib.hid KND
          have HND := Lib.hid hnd
          have HNDL : Hid (nd ≤ 1000) := Lib.hid (by
            rcases Nat.eq_zero_or_pos nd with e0 | e0
            · omega
            · have := needN_two (op i).n (by omega); omega)
          clear hr1 hb1 hqo hqol KMB HTW1 HM1 HBL1 hg1 hrow1 hcn hnd
          go_wp2_with fail
          go_loopw [57, 10, 11] (fun kx rv lv wq => ∃ k : Nat, k ≤ B.n ∧ kx = .int .i64 k ∧ rv = .int .i64 (runN B k) ∧ lv = .int .i64 (leastN B nd k) ∧ Below w1.heap.size w1 wq) (fun kx _ _ _ => B.n + 1 - (intOf kx).toNat)
          case atStart => exact ⟨0, Nat.zero_le _, rfl, rfl, rfl, Below.refl _ _⟩
          case round =>
            obtain ⟨k, hk, rfl, rfl, rfl, hbk⟩ := hrel
            have HBK := Lib.hid hbk
            by_cases hlk : k < B.n
            · have hltk : (k : Int) < (B.n : Int) := by omega
              have k0' : (0 : Int) ≤ (k : Int) := Int.natCast_nonneg k
              have wk : IntKind.i64.wrap ((k : Int) + 1) = (k : Int) + 1 := by have := HCN.out; rw [IntKind.wrap_i64]; omega
              have hr1 := HROW1.out k hlk
              rw [← obj_below hbk HG1.out] at hr1
              have hg1w : g1 < wr.heap.size := by have := hbk.size; have := HG1.out; omega
              have hsz := HST.out.hB.size hlk
              have hrl := run_le HST.out.hB k hk
              have hll := least_le (need := nd) HST.out.hB k hk
              have hqo2 := keepA (.cells #[.int .i64 (B.at k), .int .i64 (B.sz k), .bool (B.us k)] 45) (keep hbk HQO1.out)
              have hqv := newA wr (.cells #[.int .i64 (B.at k), .int .i64 (B.sz k), .bool (B.us k)] 45)
              have HBV := Lib.hid (hbk.alloc hbk.size (.cells #[.int .i64 (B.at k), .int .i64 (B.sz k), .bool (B.us k)] 45))
              obtain ⟨z, hz⟩ : ∃ z, B.at k = z := ⟨_, rfl⟩
              obtain ⟨sz, hs⟩ : ∃ x, B.sz k = x := ⟨_, rfl⟩
              obtain ⟨u, hu⟩ : ∃ u, B.us k = u := ⟨_, rfl⟩
              rw [hz, hs, hu] at hr1 hqo2 hqv HBV
              rw [hs] at hsz
              have hqvl := lt_of_obj hqv
              have hqo2l := lt_of_obj hqo2
              have HK := Lib.hid hlk
              obtain ⟨rn, hrn⟩ : ∃ x, runN B k = x := ⟨_, rfl⟩
              obtain ⟨ln, hln⟩ : ∃ x, leastN B nd k = x := ⟨_, rfl⟩
              rw [hrn] at hrl ⊢
              rw [hln] at hll ⊢
              cases u
              · obtain ⟨mx, hmx⟩ : ∃ x, max rn sz = x := ⟨_, rfl⟩
                have wmax : max (rn : Int) (sz : Int) = (mx : Int) := by omega
                have R1 : Hid (runN B (k + 1) = mx) := Lib.hid (by rw [runN_free hu, hrn, hs, hmx])
                rcases (by omega : sz < nd ∨ (nd ≤ sz ∧ ln = 0) ∨ (nd ≤ sz ∧ ln ≠ 0 ∧ sz < ln) ∨ (nd ≤ sz ∧ ln ≠ 0 ∧ ¬ sz < ln)) with hc | ⟨hc1, hc2⟩ | ⟨hc1, hc2, hc3⟩ | ⟨hc1, hc2, hc3⟩
                · have L1 : Hid (leastN B nd (k + 1) = ln) := Lib.hid (by rw [leastN_not (fun h => by omega), hln])
                  have d1 : decide (nd ≤ sz) = false := decide_eq_false (by omega)
                  clear hk hlk hbk hz hs hu hrn hln hmx hsz hrl hll hc
                  go_wp2_with fail
                  generalize wr.alloc (.cells #[.int .i64 z, .int .i64 sz, .bool false] 45) = wv at hqv hqvl hqo2 hqo2l HBV ⊢
                  generalize wr.heap.size = gv at hqv hqvl ⊢
                  refine wp_region_more (by kernel_rfl) (by kernel_rfl) ?_
                  repeat (go_big_quiet_step ((go_at_call 14; exact more_call ((KND.out _).mono (by rintro _ _ ⟨rfl, rfl⟩; exact ⟨rfl, Below.refl _ _⟩)))))
                  refine wpQuiet_nil ?_
                  intro _ hw'
                  obtain ⟨y, hw''⟩ := hw'
                  subst hw''
                  have HBY : Hid (Below w1.heap.size w1 (more wv y)) := Lib.hid (HBV.out.trans ((more_below wv y).mono HBV.out.size))
                  have hqy : obj (more wv y) gv = some (.cells #[.int .i64 z, .int .i64 sz, .bool false] 45 (0, 0)) := by rw [obj_more _ _ _ hqvl]; exact hqv
                  have hqyl := lt_of_obj hqy
                  generalize more wv y = wy at HBY hqy hqyl ⊢
                  clear hqv hqvl hqo2 hqo2l HBV
                  go_wp2_with fail
                  exact ⟨⟨k + 1, HK.out, by simp, by rw [R1.out], by rw [L1.out], HBY.out⟩, by have := HK.out; simp only [intOf]; omega⟩
                · have L1 : Hid (leastN B nd (k + 1) = sz) := Lib.hid (by rw [leastN_free hu (by omega) (Or.inl (by omega)), hs])
                  have d1 : decide (nd ≤ sz) = true := decide_eq_true (by omega)
                  subst hc2
                  clear hk hlk hbk hz hs hu hrn hln hmx hsz hrl hll hc1
                  go_wp2_with fail
                  generalize wr.alloc (.cells #[.int .i64 z, .int .i64 sz, .bool false] 45) = wv at hqv hqvl hqo2 hqo2l HBV ⊢
                  generalize wr.heap.size = gv at hqv hqvl ⊢
                  refine wp_region_more (by kernel_rfl) (by kernel_rfl) ?_
                  repeat (go_big_quiet_step ((go_at_call 14; exact more_call ((KND.out _).mono (by rintro _ _ ⟨rfl, rfl⟩; exact ⟨rfl, Below.refl _ _⟩)))))
                  refine wpQuiet_nil ?_
                  intro _ hw'
                  obtain ⟨y, hw''⟩ := hw'
                  subst hw''
                  have HBY : Hid (Below w1.heap.size w1 (more wv y)) := Lib.hid (HBV.out.trans ((more_below wv y).mono HBV.out.size))
                  have hqy : obj (more wv y) gv = some (.cells #[.int .i64 z, .int .i64 sz, .bool false] 45 (0, 0)) := by rw [obj_more _ _ _ hqvl]; exact hqv
                  have hqyl := lt_of_obj hqy
                  generalize more wv y = wy at HBY hqy hqyl ⊢
                  clear hqv hqvl hqo2 hqo2l HBV
                  go_wp2_with fail
                  exact ⟨⟨k + 1, HK.out, by simp, by rw [R1.out], by rw [L1.out], HBY.out⟩, by have := HK.out; simp only [intOf]; omega⟩
                · have L1 : Hid (leastN B nd (k + 1) = sz) := Lib.hid (by rw [leastN_free hu (by omega) (Or.inr (by omega)), hs])
                  have d1 : decide (nd ≤ sz) = true := decide_eq_true (by omega)
                  have d2 : ((ln : Int) == 0) = false := by simp; omega
                  have d2' : (ln == 0) = false := by simp; omega
                  have d3 : decide (sz < ln) = true := decide_eq_true hc3
                  clear hk hlk hbk hz hs hu hrn hln hmx hsz hrl hll hc1 hc2 hc3
                  go_wp2_with fail
                  generalize wr.alloc (.cells #[.int .i64 z, .int .i64 sz, .bool false] 45) = wv at hqv hqvl hqo2 hqo2l HBV ⊢
                  generalize wr.heap.size = gv at hqv hqvl ⊢
                  refine wp_region_more (by kernel_rfl) (by kernel_rfl) ?_
                  repeat (go_big_quiet_step ((go_at_call 14; exact more_call ((KND.out _).mono (by rintro _ _ ⟨rfl, rfl⟩; exact ⟨rfl, Below.refl _ _⟩)))))
                  refine wpQuiet_nil ?_
                  intro _ hw'
                  obtain ⟨y, hw''⟩ := hw'
                  subst hw''
                  have HBY : Hid (Below w1.heap.size w1 (more wv y)) := Lib.hid (HBV.out.trans ((more_below wv y).mono HBV.out.size))
                  have hqy : obj (more wv y) gv = some (.cells #[.int .i64 z, .int .i64 sz, .bool false] 45 (0, 0)) := by rw [obj_more _ _ _ hqvl]; exact hqv
                  have hqyl := lt_of_obj hqy
                  generalize more wv y = wy at HBY hqy hqyl ⊢
                  clear hqv hqvl hqo2 hqo2l HBV
                  go_wp2_with fail
                  exact ⟨⟨k + 1, HK.out, by simp, by rw [R1.out], by rw [L1.out], HBY.out⟩, by have := HK.out; simp only [intOf]; omega⟩
                · have L1 : Hid (leastN B nd (k + 1) = ln) := Lib.hid (by rw [leastN_not (fun h => by omega), hln])
                  have d1 : decide (nd ≤ sz) = true := decide_eq_true (by omega)
                  have d2 : ((ln : Int) == 0) = false := by simp; omega
                  have d2' : (ln == 0) = false := by simp; omega
                  have d3 : decide (sz < ln) = false := decide_eq_false hc3
                  clear hk hlk hbk hz hs hu hrn hln hmx hsz hrl hll hc1 hc2 hc3
                  go_wp2_with fail
                  generalize wr.alloc (.cells #[.int .i64 z, .int .i64 sz, .bool false] 45) = wv at hqv hqvl hqo2 hqo2l HBV ⊢
                  generalize wr.heap.size = gv at hqv hqvl ⊢
                  refine wp_region_more (by kernel_rfl) (by kernel_rfl) ?_
                  repeat (go_big_quiet_step ((go_at_call 14; exact more_call ((KND.out _).mono (by rintro _ _ ⟨rfl, rfl⟩; exact ⟨rfl, Below.refl _ _⟩)))))
                  refine wpQuiet_nil ?_
                  intro _ hw'
                  obtain ⟨y, hw''⟩ := hw'
                  subst hw''
                  have HBY : Hid (Below w1.heap.size w1 (more wv y)) := Lib.hid (HBV.out.trans ((more_below wv y).mono HBV.out.size))
                  have hqy : obj (more wv y) gv = some (.cells #[.int .i64 z, .int .i64 sz, .bool false] 45 (0, 0)) := by rw [obj_more _ _ _ hqvl]; exact hqv
                  have hqyl := lt_of_obj hqy
                  generalize more wv y = wy at HBY hqy hqyl ⊢
                  clear hqv hqvl hqo2 hqo2l HBV
                  go_wp2_with fail
                  exact ⟨⟨k + 1, HK.out, by simp, by rw [R1.out], by rw [L1.out], HBY.out⟩, by have := HK.out; simp only [intOf]; omega⟩
              · have R1 : Hid (runN B (k + 1) = rn) := Lib.hid (by rw [runN_used hu, hrn])
                have L1 : Hid (leastN B nd (k + 1) = ln) := Lib.hid (by rw [leastN_used hu, hln])
                clear hk hlk hbk hz hs hu hrn hln hsz hrl hll
                go_wp2_with fail
                exact ⟨⟨k + 1, HK.out, by simp, by rw [R1.out], by rw [L1.out], HBV.out⟩, by have := HK.out; simp only [intOf]; omega⟩
            · obtain rfl : k = B.n := by omega
              have hltk : ¬ (B.n : Int) < (B.n : Int) := by omega
              obtain ⟨rn, hrn⟩ : ∃ x, runN B B.n = x := ⟨_, rfl⟩
              obtain ⟨ln, hln⟩ : ∃ x, leastN B nd B.n = x := ⟨_, rfl⟩
              rw [hrn, hln]
              have HRN := Lib.hid hrn
              have HLN := Lib.hid hln
              have HTW3 := Lib.hid (HTW2.out.below hbk)
              have HM3 := Lib.hid (HM2.out.below hbk)
              have HBL3 := Lib.hid (HBL2.out.trans (hbk.mono HBL2.out.size))
              have hqo3 := keep hbk HQO1.out
              have HQO3 := Lib.hid hqo3
              have hqo3l := lt_of_obj hqo3
              have hda := (HOPS.out.below HBL3.out).da i HI.out
              rw [HDD.out] at hda
              have KD := Lib.hid (tdo_any HTW3.out (by have := HN80.out; have := HI.out; omega) (by have := HN80.out; have := HI.out; omega) (op i) H78.out.1 H78.out.2 hda (HOPS.out.by8 i HI.out))
              unfold opV at KD
              clear hk hlk hbk hrn hln hda HBK
              go_wp2_with fail
              refine KD.out.mono ?_
              rintro _ w2' ⟨err, o, v2, W', W2, r', nn, c, B', now2, rfl, htw2, hw2, _, hsl2, hdid, hk2⟩
              have hgol : go ∉ TW :: hb0.list := fun hx => by have := HBM.out go hx; have := HGO.out; omega
              have hqo4 := hk2.keep HQO3.out hgol
              have HK2 := Lib.hid hk2
              obtain ⟨ao2, cap2, rfl⟩ := hsl2.form
              have hb5 := (Below.refl w2'.heap.size w2').alloc (Nat.le_refl _) (.cells #[.int .i64 err, .int .i64 o, .slice ao2 nn cap2] 32)
              have HTW5 := Lib.hid (htw2.below hb5)
              have HM5 := Lib.hid ((HM3.out.kept hk2 HBM.out).below hb5)
              have HBL5 := Lib.hid ((below_list HBL3.out hk2 HFR.out).trans (hb5.mono (below_list HBL3.out hk2 HFR.out).size))
              have HBM5 : Hid (Bm ≤ (w2'.alloc (.cells #[.int .i64 err, .int .i64 o, .slice ao2 nn cap2] 32)).heap.size) := Lib.hid (by have := HM5.out.lt; have := HM5.out.1; omega)
              have hqo5 := keep hb5 hqo4
              have hd5 := newA w2' (.cells #[.int .i64 err, .int .i64 o, .slice ao2 nn cap2] 32)
              have HDID := Lib.hid hdid
              have HW2 := Lib.hid hw2
              have hgne : go ≠ w2'.heap.size := Nat.ne_of_lt (lt_of_obj hqo4)
              unfold ansV
              clear htw2 hw2 hsl2 hdid hk2 hgol hb5 KD HTW2 HM2 HBL2 HTW3 HM3 HBL3 hqo3 hqo3l
              by_cases hk1 : (op i).kind = 1
              · rw [hk1] at hqo5 hqo4
                have HK1 := Lib.hid hk1
                by_cases hn0 : nd = 0
                · obtain rfl := HDID.out.arg hk1 (HND.out.trans hn0)
                  have hsm := HDID.out.same (by decide)
                  have hn0' : ((nd : Int) == 0) = true := by simp; omega
                  have HSM := Lib.hid hsm
                  subst hn0
                  clear hk1 hsm
                  go_wp2_with fail
                  refine (KND.out _).mono ?_
                  rintro _ _ ⟨rfl, rfl⟩
                  go_wp2_with fail
                  have hsm := HSM.out
                  exact ⟨⟨i + 1, M, B', W2, r', now2, HI.out, by simp, rfl, HTW5.out.mono (by omega) (by omega), by rw [hsm.2.1]; exact HM5.out.congr (fun x hx => by rw [HW2.out x hx, hsm.1]), HBM5.out, HBL5.out⟩, by have := HI.out; simp only [intOf]; omega⟩
                · rcases HDID.out.alloc' hk1 (by rw [HND.out]; exact hn0) with ⟨rfl, rfl, _, _, _, hno⟩ | ⟨rfl, hr, k, hk, hf, hl, ho, hW, hBB⟩
                  · have hsm := HDID.out.same (by decide)
                    have HSM := Lib.hid hsm
                    have hn0' : ((nd : Int) == 0) = false := by simp; omega
                    have hnr : ¬ nd ≤ rn := fun h => by
                      obtain ⟨x, hx, hfx⟩ := run_fits (b := B) (need := nd) (by omega) B.n (by rw [HRN.out]; exact h)
                      exact hno x hx (by rw [HND.out]; exact hfx)
                    have hnr' : decide (nd ≤ rn) = false := decide_eq_false hnr
                    clear hk1 hsm hno hnr hn0
                    go_wp2_with fail
                    refine (KND.out _).mono ?_
                    rintro _ _ ⟨rfl, rfl⟩
                    go_wp2_with fail
                    have hsm := HSM.out
                    exact ⟨⟨i + 1, M, B', W2, r', now2, HI.out, by simp, rfl, HTW5.out.mono (by omega) (by omega), by rw [hsm.2.1]; exact HM5.out.congr (fun x hx => by rw [HW2.out x hx, hsm.1]), HBM5.out, HBL5.out⟩, by have := HI.out; simp only [intOf]; omega⟩
                  · rw [HND.out] at hf
                    have hlq := least_eq (need := nd) HST.out.hB hk hf (fun x hx hfx => hl x hx (by rw [HND.out]; exact hfx))
                    rw [HLN.out] at hlq
                    have hrq := run_ge hf.1 B.n hk
                    rw [HRN.out] at hrq
                    have hn0' : ((nd : Int) == 0) = false := by simp; omega
                    have hnr' : decide (nd ≤ rn) = true := decide_eq_true (Nat.le_trans hf.2 hrq)
                    have KMB := Lib.hid (rmblocks_any HM5.out HST.out.hB HST.out.he)
                    have hda := (HOPS.out.below HBL5.out).da i HI.out
                    rw [HDD.out] at hda
                    have HK := Lib.hid (And.intro hk (And.intro hf.1 (And.intro hlq ho)))
                    have HQO5 := Lib.hid hqo5
                    have HD5 := Lib.hid hd5
                    clear hk1 hn0 hlq hrq hk hf hl ho hW hBB hr hda
                    go_wp2_with fail
                    refine (KND.out _).mono ?_
                    rintro _ _ ⟨rfl, rfl⟩
                    go_wp2_with fail
                    generalize w2'.alloc (.cells #[.int .i64 0, .int .i64 o, .slice ao2 nn cap2] 32) = w5 at HTW5 HM5 HBL5 HBM5 HQO5 HD5 KMB hqo5 hd5 ⊢
                    generalize w2'.heap.size = gd at HD5 hd5 hgne ⊢
                    refine KMB.out.mono ?_
                    rintro _ w6 ⟨v6, rfl, hr6, hb6⟩
                    obtain ⟨g6, off6, cap6, rfl, _, _, _, hg6, hrow6, _⟩ := blk_row hr6 (by have := HCN.out; omega)
                    have HROW6 := Lib.hid hrow6
                    have HG6 := Lib.hid hg6
                    have HTW6 := Lib.hid (HTW5.out.below hb6)
                    have HM6 := Lib.hid (HM5.out.below hb6)
                    have HBL6 := Lib.hid (HBL5.out.trans (hb6.mono HBL5.out.size))
                    have HBM6 : Hid (Bm ≤ w6.heap.size) := Lib.hid (Nat.le_trans HBM5.out hb6.size)
                    have HQO6 := Lib.hid (keep hb6 HQO5.out)
                    have HD6 := Lib.hid (keep hb6 HD5.out)
                    clear hr6 hb6 hg6 hrow6 KMB HTW5 HM5 HBL5 HBM5 HQO5 HD5 hqo5 hd5 hgne hqo4
                    go_wp2_with fail
                    go_loopw [127, 16] (fun xx yy wq => ∃ x : Nat, x ≤ B.n ∧ xx = .int .i64 x ∧ yy = .int .i64 (if x ≤ k then -1 else (k : Int)) ∧ Below w6.heap.size w6 wq) (fun xx _ _ => B.n + 1 - (intOf xx).toNat)
                    case atStart => exact ⟨0, Nat.zero_le _, rfl, by rw [if_pos (Nat.zero_le _)], Below.refl _ _⟩
                    case round =>
                      obtain ⟨x, hx, rfl, rfl, hbx⟩ := hrel
                      have HBX := Lib.hid hbx
                      by_cases hlx : x < B.n
                      · have hltx : (x : Int) < (B.n : Int) := by omega
                        have x0' : (0 : Int) ≤ (x : Int) := Int.natCast_nonneg x
                        have wx : IntKind.i64.wrap ((x : Int) + 1) = (x : Int) + 1 := by have := HCN.out; rw [IntKind.wrap_i64]; omega
                        have hr6 := HROW6.out x hlx
                        rw [← obj_below hbx HG6.out] at hr6
                        have hg6w : g6 < wr.heap.size := by have := hbx.size; have := HG6.out; omega
                        have hlt := HST.out.hB.lt hlx
                        have hbig := HST.out.hB.big
                        have hatne : x ≠ k → B.at x ≠ B.at k := fun hh e => by
                          have h1 := HST.out.hB.size hlx
                          have h2 := HST.out.hB.size HK.out.1
                          rcases Nat.lt_or_ge x k with h3 | h3
                          · have := B.at_mono (show x + 1 ≤ k by omega); rw [B.at_succ] at this; omega
                          · have := B.at_mono (show k + 1 ≤ x by omega); rw [B.at_succ] at this; omega
                        have hkk := HK.out
                        have hdv := keepA (.cells #[.int .i64 (B.at x), .int .i64 (B.sz x), .bool (B.us x)] 45) (keep hbx HD6.out)
                        have hqv := newA wr (.cells #[.int .i64 (B.at x), .int .i64 (B.sz x), .bool (B.us x)] 45)
                        have HBV := Lib.hid (hbx.alloc hbx.size (.cells #[.int .i64 (B.at x), .int .i64 (B.sz x), .bool (B.us x)] 45))
                        have HX := Lib.hid hlx
                        by_cases hxk : x = k
                        · obtain rfl : x = k := hxk
                          have HY1 : Hid ((if x + 1 ≤ x then (-1 : Int) else (x : Int)) = (x : Int)) := Lib.hid (if_neg (by omega))
                          rw [if_pos (Nat.le_refl x)]
                          obtain ⟨_, hku, hks, hko⟩ := hkk
                          rw [hku, ← hks] at hr6 hdv hqv HBV
                          obtain ⟨z, hz⟩ : ∃ z, B.at x = z := ⟨_, rfl⟩
                          rw [hz] at hr6 hdv hqv HBV hko
                          rw [hz] at hlt
                          have KO := fun w => roff_any z ln false (by omega) w
                          obtain ⟨oo, hoo⟩ : ∃ y, (z + 1) * 8 = y := ⟨_, rfl⟩
                          rw [hoo] at KO hko
                          have KO := Lib.hid KO
                          subst hko
                          have hqvl := lt_of_obj hqv
                          have hdvl := lt_of_obj hdv
                          clear hx hbx hlx hlt hbig hatne hku hks hz hoo
                          go_wp2_with fail
                          generalize wr.alloc (.cells #[.int .i64 z, .int .i64 ln, .bool false] 45) = wv at hqv hqvl hdv hdvl HBV ⊢
                          generalize wr.heap.size = gv at hqv hqvl ⊢
                          refine wp_region_more (by kernel_rfl) (by kernel_rfl) ?_
                          repeat (go_big_quiet_step ((go_at_call 15; exact more_call (KO.out _))))
                          refine wpQuiet_nil ?_
                          intro _ hw'
                          obtain ⟨y', hw''⟩ := hw'
                          subst hw''
                          have HBY : Hid (Below w6.heap.size w6 (more wv y')) := Lib.hid (HBV.out.trans ((more_below wv y').mono HBV.out.size))
                          generalize more wv y' = wy at HBY ⊢
                          clear hqv hqvl hdv hdvl HBV
                          go_wp2_with fail
                          exact ⟨⟨x + 1, HX.out, by simp, by rw [HY1.out], HBY.out⟩, by have := HX.out; simp only [intOf]; omega⟩
                        · have HY1 : Hid ((if x + 1 ≤ k then (-1 : Int) else (k : Int)) = (if x ≤ k then (-1 : Int) else (k : Int))) := Lib.hid (by
                            by_cases h1 : x ≤ k
                            · rw [if_pos h1, if_pos (by omega)]
                            · rw [if_neg h1, if_neg (by omega)])
                          obtain ⟨yy, hyy⟩ : ∃ y, (if x ≤ k then (-1 : Int) else (k : Int)) = y := ⟨_, rfl⟩
                          rw [hyy] at HY1 ⊢
                          have hzk := hatne hxk
                          have hko := hkk.2.2.2
                          obtain ⟨z, hz⟩ : ∃ z, B.at x = z := ⟨_, rfl⟩
                          obtain ⟨sz, hs⟩ : ∃ y, B.sz x = y := ⟨_, rfl⟩
                          obtain ⟨u, hu⟩ : ∃ u, B.us x = u := ⟨_, rfl⟩
                          rw [hz, hs, hu] at hr6 hdv hqv HBV
                          rw [hz] at hlt hzk
                          have KO := fun w => roff_any z sz u (by omega) w
                          obtain ⟨oo, hoo⟩ : ∃ y, (z + 1) * 8 = y := ⟨_, rfl⟩
                          rw [hoo] at KO
                          have KO := Lib.hid KO
                          have hne : ((oo : Int) == o) = false := by simp; omega
                          have hqvl := lt_of_obj hqv
                          have hdvl := lt_of_obj hdv
                          clear hx hbx hlx hlt hbig hatne hkk hxk hyy hzk hko hz hs hu hoo
                          go_wp2_with fail
                          generalize wr.alloc (.cells #[.int .i64 z, .int .i64 sz, .bool u] 45) = wv at hqv hqvl hdv hdvl HBV ⊢
                          generalize wr.heap.size = gv at hqv hqvl ⊢
                          refine wp_region_more (by kernel_rfl) (by kernel_rfl) ?_
                          repeat (go_big_quiet_step ((go_at_call 15; exact more_call (KO.out _))))
                          refine wpQuiet_nil ?_
                          intro _ hw'
                          obtain ⟨y', hw''⟩ := hw'
                          subst hw''
                          have HBY : Hid (Below w6.heap.size w6 (more wv y')) := Lib.hid (HBV.out.trans ((more_below wv y').mono HBV.out.size))
                          generalize more wv y' = wy at HBY ⊢
                          clear hqv hqvl hdv hdvl HBV
                          go_wp2_with fail
                          exact ⟨⟨x + 1, HX.out, by simp, by rw [HY1.out], HBY.out⟩, by have := HX.out; simp only [intOf]; omega⟩
                      · obtain rfl : x = B.n := by omega
                        have hltx : ¬ (B.n : Int) < (B.n : Int) := by omega
                        have hkn := HK.out.1
                        rw [if_neg (by omega)]
                        have hk0 : ¬ (k : Int) < 0 := by omega
                        have hda := (HOPS.out.below (HBL6.out.trans (hbx.mono HBL6.out.size))).da i HI.out
                        rw [HDD.out] at hda
                        have KNX := rnext_any (HM6.out.below hbx) HST.out HDID.out rfl hda (HOPS.out.by8 i HI.out)
                        unfold opV at KNX
                        rw [HK1.out] at KNX
                        have KNX := Lib.hid KNX
                        have HTW5 := Lib.hid (HTW6.out.below hbx)
                        have HBL5 := Lib.hid (HBL6.out.trans (hbx.mono HBL6.out.size))
                        have HBM5 : Hid (Bm ≤ wr.heap.size) := Lib.hid (Nat.le_trans HBM6.out hbx.size)
                        have hqo5 := keep hbx HQO6.out
                        have hd5 := keep hbx HD6.out
                        have hqo5l := lt_of_obj hqo5
                        have hd5l := lt_of_obj hd5
                        clear hx hbx hlx hkn hda HTW6 HM6 HBL6 HBM6
                        go_wp2_with fail
                        refine KNX.out.mono ?_
                        rintro _ w7 ⟨M7, rfl, hm7, hb7⟩
                        have HM7 : Hid (MAt w7 Bm M7 (P.L * 8) W2 r') := Lib.hid ((hm7.mono HBM5.out).congr (fun x hx => (HW2.out x hx).symm))
                        have HTW7 := Lib.hid (HTW5.out.below hb7)
                        have HBL7 := Lib.hid (HBL5.out.trans (hb7.mono HBL5.out.size))
                        have HBM7 : Hid (Bm ≤ w7.heap.size) := Lib.hid (Nat.le_trans HBM5.out hb7.size)
                        clear hm7 hb7 KNX hqo5 hd5 hqo5l hd5l
                        go_wp2_with fail
                        exact ⟨⟨i + 1, M7, B', W2, r', now2, HI.out, by simp, rfl, HTW7.out.mono (by omega) (by omega), HM7.out, HBM7.out, HBL7.out⟩, by have := HI.out; simp only [intOf]; omega⟩
              · have hk1' : ((op i).kind == 1) = false := by simpa using hk1
                by_cases he : err = 0
                · subst he
                  have hda := (HOPS.out.below HBL5.out).da i HI.out
                  rw [HDD.out] at hda
                  have KNX := rnext_any HM5.out HST.out HDID.out rfl hda (HOPS.out.by8 i HI.out)
                  unfold opV at KNX
                  have KNX := Lib.hid KNX
                  have HQO5 := Lib.hid hqo5
                  clear hda hk1
                  go_wp2_with fail
                  generalize w2'.alloc (.cells #[.int .i64 0, .int .i64 o, .slice ao2 nn cap2] 32) = w5 at KNX HQO5 HTW5 HM5 HBL5 HBM5 hqo5 hd5 ⊢
                  generalize w2'.heap.size = gd at hd5 hgne ⊢
                  clear hk1'
                  refine KNX.out.mono ?_
                  rintro _ w7 ⟨M7, rfl, hm7, hb7⟩
                  have HM7 : Hid (MAt w7 Bm M7 (P.L * 8) W2 r') := Lib.hid ((hm7.mono HBM5.out).congr (fun x hx => (HW2.out x hx).symm))
                  have HTW7 := Lib.hid (HTW5.out.below hb7)
                  have HBL7 := Lib.hid (HBL5.out.trans (hb7.mono HBL5.out.size))
                  have HBM7 : Hid (Bm ≤ w7.heap.size) := Lib.hid (Nat.le_trans HBM5.out hb7.size)
                  clear hm7 hb7 KNX
                  go_wp2_with fail
                  exact ⟨⟨i + 1, M7, B', W2, r', now2, HI.out, by simp, rfl, HTW7.out.mono (by omega) (by omega), HM7.out, HBM7.out, HBL7.out⟩, by have := HI.out; simp only [intOf]; omega⟩
                · have he' : (err == 0) = false := by simpa using he
                  have hsm := HDID.out.same he
                  have HSM := Lib.hid hsm
                  clear hk1 he hsm
                  go_wp2_with fail
                  have hsm := HSM.out
                  exact ⟨⟨i + 1, M, B', W2, r', now2, HI.out, by simp, rfl, HTW5.out.mono (by omega) (by omega), by rw [hsm.2.1]; exact HM5.out.congr (fun x hx => by rw [HW2.out x hx, hsm.1]), HBM5.out, HBL5.out⟩, by have := HI.out; simp only [intOf]; omega⟩
      · obtain rfl : i = n0 := by omega
        have hltz : ¬ (i : Int) < (i : Int) := by omega
        have KH := Lib.hid (tw_heap htw)
        have KSY := Lib.hid (rsays_any htw.toHp (by have := HN80.out; omega) (by have := HN80.out; omega) hm (fun x hx => HBM.out x (by simp [HB.list] at hx ⊢; omega)))
        have HFR2 : Hid (∀ x ∈ [hb0.Mb, hb0.Cb, hb0.TU, hb0.g1, hb0.g2], w.heap.size ≤ x) := Lib.hid (fun x hx => HFR.out x (by simp [HB.list] at hx ⊢; omega))
        clear hi hlt htw hm hbm hbl
        go_wp2_with fail
        refine KH.out.mono ?_
        rintro _ _ ⟨rfl, rfl⟩
        go_wp2_with fail
        refine KSY.out.mono ?_
        rintro _ w8 ⟨rfl, hk8⟩
        have HBL8 := Lib.hid (below_list HBL.out hk8 HFR2.out)
        clear hk8 KSY KH
        go_wp2_with fail
        refine (KAW.out _).mono ?_
        rintro _ w9 ⟨rfl, hb9⟩
        have HBL9 := Lib.hid (HBL8.out.trans (hb9.mono HBL8.out.size))
        clear hb9
        go_wp2_with fail
        go_ret
        exact ⟨rfl, HBL9.out⟩
end Go.Proofs.YtphmfaddgpjndaaGreat
