/- Contracts and laws of their own, used by the claim's theorem: heap.Format. -/
import Derived.Test.YtphmfaddgpjndaaGreatPk6
import Derived.OpenShut
namespace Go.Proofs.YtphmfaddgpjndaaGreat
open Go.ChangeShapes Go.WideShapes Go.RowKit Go.Maps

theorem new_good (L S : Nat) (hL : 1 ≤ L ∧ L ≤ 64) (hS : S ≤ 16) : Good (MS.new (16 + L + 1 + S)) (16 + L) S :=
  ⟨rfl, (by decide : (-1 : Int) ≤ 0), Int.le_refl _, (by decide : (0 : Int) ≤ 1000000000000), fun _ => ⟨Int.le_refl _, Int.le_refl _⟩, Int.le_refl _, Int.le_refl _, fun i _ => rfl, rfl, by omega, hS⟩
theorem neq91 (l l2 : List Int) (h1 : l.length = 8) (h2 : l2.length = 8) (w : World) : (binOp .neq 91 (.agg (cs l)) (.agg (cs l2))).run Tryz.prog w = .ok (.bool (!(l == l2))) w := by
  have e1 : Tryz.prog.elem 91 = 25 := by kernel_rfl
  have e2 : Tryz.prog.arrayLen 91 = 8 := by kernel_rfl
  exact run_neq_words (P := Tryz.prog) (w := w) (t := 91) (a := l) (b := l2) (by rw [e1, e2]; exact Tryz.underlying91) (by rw [e1]; exact Tryz.underlying25) (by rw [e1]; exact Tryz.sizeOf25 w) (by rw [e1]; exact Tryz.isAgg25 w) (by rw [e2, h1]) (by rw [e2, h2])
/-- what Format leaves -/
structure Formed (m : MS) (p : Pl) : Prop where
  gd : Good m (16 + p.L) p.S
  cut : m.cut = -1
  regs : ∀ i, i ≠ 0 → m.reg i = 0
  wr : m.writes ≤ 300
  ct : ∀ i, i < p.L → m.cont (16 + p.L) (16 + i) = lineW (firstW (p.L * 8)) i
section
variable {w : World} {Mb Cb : Nat} {p : Pl}
set_option maxRecDepth 100000 in
set_option maxHeartbeats 6400000 in
theorem format_any (h : MemAt w Mb Cb (MS.new (16 + p.L + 1 + p.S))) (hp : p.Ok) :
    Calls Tryz.prog 29 #[.pointer (some ⟨Mb, 0, none⟩), p.v] w fun e w' => ∃ m, e = .returned (.int .i64 0) ∧ MemAt w' Mb Cb m ∧ Formed m p ∧ Kept [Mb, Cb] w w' := by
  have HMC := Lib.hid (And.intro h.hM.lt h.hL.lt)
  have hL := hp.hl
  have hgd := new_good p.L p.S hL hp.hs
  generalize hm0 : MS.new (16 + p.L + 1 + p.S) = m0 at h hgd
  have hrg : ∀ i, m0.reg i = 0 := fun i => by rw [← hm0]; rfl
  have hct : ∀ y, m0.cont (16 + p.L) y = [0, 0, 0, 0, 0, 0, 0, 0] := fun y => by rw [← hm0]; rfl
  have hcut : m0.cut = -1 := by rw [← hm0]; rfl
  have hwr0 : m0.writes = 0 := by rw [← hm0]; rfl
  have hq := newA w (.cells #[.int .i64 p.L, .int .i64 p.S, .int .i64 p.P, .int .i64 p.B] 23)
  have HB0 : Hid (Below w.heap.size w (w.alloc (.cells #[.int .i64 p.L, .int .i64 p.S, .int .i64 p.P, .int .i64 p.B] 23))) := Lib.hid ((Below.refl _ _).alloc (Nat.le_refl _) _)
  have HA := Lib.hid (h.alloc (.cells #[.int .i64 p.L, .int .i64 p.S, .int .i64 p.P, .int .i64 p.B] 23))
  have HP := Lib.hid hp
  have HG := Lib.hid hgd
  have HM := Lib.hid (And.intro hrg (And.intro hct (And.intro hcut hwr0)))
  have HL := Lib.hid hL
  have KM := Lib.hid (hmay_any HA.out hp (by rw [hgd.hn]; omega) hgd.up)
  unfold Pl.v at KM ⊢
  have hql := lt_of_obj hq
  have hsz0 : (w.alloc (.cells #[.int .i64 p.L, .int .i64 p.S, .int .i64 p.P, .int .i64 p.B] 23)).heap.size = w.heap.size + 1 := by simp
  clear h hp hgd hrg hct hcut hwr0 hm0 hL
  go_enter Tryz.func29, Tryz.ntmps29
  go_wp2_with fail
  generalize w.alloc (.cells #[.int .i64 p.L, .int .i64 p.S, .int .i64 p.P, .int .i64 p.B] 23) = w0 at HA HB0 KM hq hql hsz0 ⊢
  generalize hbb : w.heap.size = bb at hq hql hsz0 HMC ⊢
  refine KM.out.mono ?_
  rintro _ w1 ⟨rfl, hb⟩
  have HA1 := Lib.hid (HA.out.below hb)
  have HB1 := Lib.hid (HB0.out.trans (hb.mono HB0.out.size))
  have hq1 := keep hb hq
  have hql1 := lt_of_obj hq1
  have HQL1 := Lib.hid hql1
  clear hb KM HB0 HA hq hql
  go_wp2_with fail
  go_loopw [20] (fun ix wr => ∃ i : Nat, i ≤ 35 ∧ ix = .int .i64 i ∧ wr = w1) (fun ix _ => 35 - (intOf ix).toNat)
  case atStart => exact ⟨0, Nat.zero_le _, rfl, rfl⟩
  case round =>
    obtain ⟨i, hi, rfl, rfl⟩ := hrel
    by_cases hlt : i < 35
    · have hltz : (i : Int) < 35 := by omega
      have wi : IntKind.i64.wrap ((i : Int) + 1) = (i : Int) + 1 := by rw [IntKind.wrap_i64]; omega
      have KR := reg_in HA1.out HG.out.up i hlt
      rw [HM.out.1 i] at KR
      have KR := Lib.hid KR
      have HI := Lib.hid hlt
      clear hi hlt
      go_wp2_with fail
      refine KR.out.mono ?_
      rintro _ _ ⟨rfl, rfl⟩
      go_wp2_with fail
      exact ⟨⟨i + 1, HI.out, by simp⟩, by have := HI.out; simp only [intOf]; omega⟩
    · obtain rfl : i = 35 := by omega
      have hltz : ¬ ((35 : Nat) : Int) < 35 := by omega
      have KLN := hlines_any HA1.out HP.out HG.out
      unfold Pl.v at KLN
      have KLN := Lib.hid KLN
      clear hi hlt
      go_wp2_with fail
      refine KLN.out.mono ?_
      rintro _ w2 ⟨TU, LN, rfl, ht, hTU, hLN, hb2⟩
      have HT := Lib.hid ht
      have HTU := Lib.hid (And.intro hTU hLN)
      have HB2 := Lib.hid (HB1.out.trans (hb2.mono HB1.out.size))
      have hq2 := keep hb2 hq1
      have hql2 := lt_of_obj hq2
      have KW := words_any HP.out w2
      unfold Pl.v at KW
      have KW := Lib.hid KW
      clear ht hTU hLN hb2 KLN hq1 hql1
      go_wp2_with fail
      refine KW.out.mono ?_
      rintro _ w3 ⟨rfl, hb3⟩
      have HT3 := Lib.hid (HT.out.below hb3)
      have HB3 := Lib.hid (HB2.out.trans (hb3.mono HB2.out.size))
      have hq3 := keep hb3 hq2
      have hql3 := lt_of_obj hq3
      have KF := Lib.hid (first_any w3 p.L HL.out)
      clear hb3 KW hq2 hql2 HT HB2
      go_wp2_with fail
      refine KF.out.mono ?_
      rintro _ w4 ⟨vf, rfl, hrf, hb4⟩
      have HT4 := Lib.hid (HT3.out.below hb4)
      have HB4 := Lib.hid (HB3.out.trans (hb4.mono HB3.out.size))
      have hq4 := keep hb4 hq3
      have hql4 := lt_of_obj hq4
      have HRF := Lib.hid hrf
      obtain ⟨aof, capf, rfl⟩ := hrf.form
      have HSZ34 := Lib.hid hb4.size
      have HB3S := Lib.hid HB3.out.size
      have HSZT : Hid (TU < w3.heap.size ∧ Mb < w3.heap.size ∧ Cb < w3.heap.size) := Lib.hid ⟨lt_of_obj HT3.out.hT, HT3.out.hM.hM.lt, HT3.out.hM.hL.lt⟩
      clear hb4 KF hq3 hql3 HT3 HB3 hrf
      go_wp2_with fail
      have HNB : Hid (bb ∉ [Mb, Cb, TU]) := Lib.hid (by have := HMC.out; have := HTU.out.1; have := HQL1.out; simp; omega)
      have HQ4 := Lib.hid hq4
      clear hltz
      go_loopw [40] (fun ix wr => ∃ (i : Nat) (m' : MS) (pu : Nat), i ≤ p.L ∧ ix = .int .i64 i ∧ TurnAt wr TU LN Mb Cb (16 + p.L) p.S p.P pu m' ∧ Goes m0 m' (16 + p.L) p.S (3 * i) ∧
        (∀ y, y < 16 + p.L → m'.cont (16 + p.L) y = if 16 ≤ y ∧ y < 16 + i then lineW (firstW (p.L * 8)) (y - 16) else [0, 0, 0, 0, 0, 0, 0, 0]) ∧ Kept [Mb, Cb, TU] w4 wr) (fun ix _ => p.L - (intOf ix).toNat)
      case atStart => exact ⟨0, m0, 0, Nat.zero_le _, rfl, HT4.out, ⟨HG.out, HM.out.2.2.1, fun _ _ => rfl, by omega⟩, fun y _ => by rw [if_neg (by omega)]; exact HM.out.2.1 y, Kept.refl _ _⟩
      case round =>
        obtain ⟨i, m1, pu, hi, rfl, ht, hgo, hcn, hkk⟩ := hrel
        have HT1 := Lib.hid ht
        have HGO := Lib.hid hgo
        have HCN := Lib.hid hcn
        have HKK := Lib.hid hkk
        clear ht hgo hcn hkk
        by_cases hlt : i < p.L
        · have hltz : (i : Int) < (p.L : Int) := by omega
          have i0' : (0 : Int) ≤ (i : Int) := Int.natCast_nonneg i
          have wi : IntKind.i64.wrap ((i : Int) + 1) = (i : Int) + 1 := by have := HL.out; rw [IntKind.wrap_i64]; omega
          have hqr := HKK.out.keep HQ4.out HNB.out
          have hqrl := lt_of_obj hqr
          have KH := fun w => home_any HP.out i hlt w
          unfold Pl.v at KH
          have KH := Lib.hid KH
          have KG := Lib.hid (fun w' (hb : Below _ _ w') => tget_in (HT1.out.below hb) HGO.out.good (16 + i) (by omega))
          have hlr : ∀ x ∈ [Mb, Cb, TU], x < w3.heap.size := by have := HSZT.out; intro x hx; simp at hx; omega
          have KN := Lib.hid (fun w' (hb : Below _ _ w') => hline_any (((HRF.out.kept HKK.out hlr).below hb).sl) i (by have := HL.out; omega) (by have := HL.out; omega))
          have hl8 := cont_len HT1.out HGO.out.good (16 + i)
          have hw8 := lineW_len (firstW (p.L * 8)) i
          have HI := Lib.hid hlt
          have HLEN := Lib.hid hw8
          obtain ⟨l, hl⟩ : ∃ l, m1.cont (16 + p.L) (16 + i) = l := ⟨_, rfl⟩
          obtain ⟨l2, hl2⟩ : ∃ l2, lineW (firstW (p.L * 8)) i = l2 := ⟨_, rfl⟩
          rw [hl] at KG hl8
          rw [hl2] at KN hw8
          have HLL := Lib.hid (And.intro hl hl2)
          clear hi hlt hlr hl hl2
          go_wp2_with fail
          refine (KH.out _).mono ?_
          rintro _ w5 ⟨rfl, hb5⟩
          have hqr5 := keep hb5 hqr
          have hqrl5 := lt_of_obj hqr5
          have KG5 := Lib.hid (KG.out w5 hb5)
          clear KG
          go_wp2_with fail
          refine KG5.out.mono ?_
          rintro _ w6 ⟨rfl, hb6⟩
          have hqr6 := keep hb6 hqr5
          have hqrl6 := lt_of_obj hqr6
          have HB6 := Lib.hid (hb5.trans (hb6.mono hb5.size))
          clear hb5 hb6 hqr hqrl hqr5 hqrl5 KG5
          have hneq := neq91 l l2 hl8 hw8
          obtain ⟨c, hc⟩ : ∃ c, (!(l == l2)) = c := ⟨_, rfl⟩
          rw [hc] at hneq
          have HCC := Lib.hid hc
          clear hc
          have HAL := Lib.hid ((HB6.out.alloc HB6.out.size (.cells (cs l) 91)))
          have hqa := keepA (.cells (cs l) 91) hqr6
          have hla := newA w6 (.cells (cs l) 91)
          have hsa : (w6.alloc (.cells (cs l) 91)).heap.size = w6.heap.size + 1 := by simp
          go_wp2_with fail
          generalize w6.alloc (.cells (cs l) 91) = w7 at HAL hqa hla hsa ⊢
          generalize w6.heap.size = g6 at hla hsa hqrl6 ⊢
          clear hqr6
          refine wp_region_more (by kernel_rfl) (by kernel_rfl) ?_
          repeat (go_big_quiet_step ((go_at_call 57; exact more_call (KN.out _ (HAL.out.trans ((more_below w7 _).mono HAL.out.size))))))
          refine wpQuiet_nil ?_
          intro _ hw'
          obtain ⟨y, hw''⟩ := hw'
          subst hw''
          have HB8 := Lib.hid (HAL.out.trans ((more_below w7 y).mono HAL.out.size))
          have hq8 := keep (more_below w7 y) hqa
          have hql8 := lt_of_obj hq8
          clear hqa hla hsa hqrl6 HAL
          change Exit.then _ _ _ _ (more w7 y)
          generalize more w7 y = w8 at HB8 hq8 hql8 ⊢
          cases c
          · have heq : l = l2 := by have := HCC.out; simpa using this
            have HK8 : Hid (Kept [Mb, Cb, TU] w4 w8) := Lib.hid (HKK.out.then_below HB8.out)
            have HEQ := Lib.hid heq
            clear heq
            go_wp2_with fail
            exact ⟨⟨i + 1, m1, pu, HI.out, by simp, HT1.out.below HB8.out, ⟨HGO.out.good, HGO.out.cut, HGO.out.regs, by have := HGO.out.wr; omega⟩, fun y hy => by
              rw [HCN.out y hy]
              by_cases e : y = 16 + i
              · rw [if_neg (by omega), if_pos (by omega), e, show 16 + i - 16 = i by omega, HLL.out.2, ← HEQ.out, ← HLL.out.1, HCN.out (16 + i) (by have := HI.out; omega), if_neg (by omega)]
              · by_cases e2 : 16 ≤ y ∧ y < 16 + i
                · rw [if_pos e2, if_pos (by omega)]
                · rw [if_neg e2, if_neg (by omega)], HK8.out⟩, by have := HI.out; simp only [intOf]; omega⟩
          · have HK8 : Hid (Kept [Mb, Cb, TU] w4 w8) := Lib.hid (HKK.out.then_below HB8.out)
            go_wp2_with fail
            refine (KH.out _).mono ?_
            rintro _ w9 ⟨rfl, hb9⟩
            have KN9 := Lib.hid (KN.out w9 (HB8.out.trans (hb9.mono HB8.out.size)))
            have HB9 := Lib.hid (HB8.out.trans (hb9.mono HB8.out.size))
            have hq9 := keep hb9 hq8
            have hql9 := lt_of_obj hq9
            clear hb9 hq8 hql8
            go_wp2_with fail
            refine KN9.out.mono ?_
            rintro _ w10 ⟨rfl, hb10⟩
            have HB10 := Lib.hid (HB9.out.trans (hb10.mono HB9.out.size))
            have hq10 := keep hb10 hq9
            have hql10 := lt_of_obj hq10
            have KT := Lib.hid (tput_in (HT1.out.below HB10.out) HGO.out.good HGO.out.cut (by have := HGO.out.wr.2; have := HM.out.2.2.2; have := HI.out; have := HL.out; omega) (16 + i) (by have := HI.out; omega) l2 hw8)
            clear hb10 hq9 hql9 KN9
            go_wp2_with fail
            refine KT.out.mono ?_
            rintro _ w11 ⟨m2, p2, rfl, ht2, hgo2, hcn2, hk2⟩
            have HT2 := Lib.hid ht2
            have HGO2 : Hid (Goes m0 m2 (16 + p.L) p.S (3 * ((i + 1 : Nat) : Int))) := Lib.hid ⟨hgo2.good, hgo2.cut, fun j hj => (hgo2.regs j hj).trans (HGO.out.regs j hj), by have := hgo2.wr; have := HGO.out.wr; omega⟩
            have HK11 : Hid (Kept [Mb, Cb, TU] w4 w11) := Lib.hid ((HKK.out.then_below HB10.out).trans hk2)
            have HCN2 := Lib.hid hcn2
            clear ht2 hgo2 hcn2 hk2 KT hq10 hql10
            go_wp2_with fail
            exact ⟨⟨i + 1, m2, p2, HI.out, by simp, HT2.out, HGO2.out, fun y hy => by
              rw [HCN2.out y hy]
              by_cases e : y = 16 + i
              · subst e
                rw [updF_same, if_pos (by omega), show 16 + i - 16 = i by omega, HLL.out.2]
              · rw [updF_ne _ _ _ e, HCN.out y hy]
                by_cases e2 : 16 ≤ y ∧ y < 16 + i
                · rw [if_pos e2, if_pos (by omega)]
                · rw [if_neg e2, if_neg (by omega)], HK11.out⟩, by have := HI.out; simp only [intOf]; omega⟩
        · obtain rfl : i = p.L := by omega
          have hltz : ¬ (p.L : Int) < (p.L : Int) := by omega
          clear hlt hi
          go_wp2_with fail
          go_ret
          refine ⟨rfl, m1, HT1.out.hM, ⟨HGO.out.good, HGO.out.cut, fun j hj => (HGO.out.regs j hj).trans (HM.out.1 j), by have := HGO.out.wr; have := HM.out.2.2.2; have := HL.out; omega, fun j hj => by rw [HCN.out _ (by omega), if_pos (by omega), show 16 + j - 16 = j by omega]⟩, ?_⟩
          have k1 : Kept [Mb, Cb, TU] w _ := (Kept.of_below HB4.out).trans HKK.out
          exact ⟨k1.os, k1.tape, k1.output, k1.size, fun n hn h1 => k1.block n hn (by
            have := HTU.out.1
            have := HB1.out.size
            simp at h1 ⊢
            omega)⟩
end
end Go.Proofs.YtphmfaddgpjndaaGreat

/- heap.Open. -/
namespace Go.Proofs.YtphmfaddgpjndaaGreat
open Go.ChangeShapes Go.WideShapes Go.RowKit Go.Maps

/-- a root that may be -/
def RootOk (B : Bs) (r : Int) : Prop := r = 0 ∨ ∃ i, i < B.n ∧ findP r (B.at i, B.sz i, B.us i) = true
theorem findP_bound {B : Bs} {N : Nat} (hB : B.Ok N) {r : Int} {i : Nat} (hi : i < B.n) (h : findP r (B.at i, B.sz i, B.us i) = true) : B.us i = true ∧ r = ((B.at i + 1) * 8 : Nat) ∧ 8 ≤ r ∧ r ≤ 4096 := by
  have h1 := findP_used h
  have h2 := hB.lt hi
  have h3 := hB.big
  unfold offN at h1
  rw [if_pos (by omega)] at h1
  refine ⟨h1.1, h1.2.symm, ?_, ?_⟩ <;> omega
theorem RootOk.bound {B : Bs} {N : Nat} (hB : B.Ok N) {r : Int} (h : RootOk B r) : 0 ≤ r ∧ r ≤ 4096 := by
  rcases h with rfl | ⟨i, hi, h⟩
  · omega
  · have := findP_bound hB hi h; omega
theorem RowIn.congr {w : World} {g n : Nat} {f f' : Nat → Int} (h : RowIn w g n f) (e : ∀ j, j < n → f j = f' j) : RowIn w g n f' := by
  obtain ⟨c, h1, h2⟩ := h
  exact ⟨c, h1, fun j hj => by rw [← e j hj]; exact h2 j hj⟩
theorem CountIn.congr {w : World} {base C g1 g2 n cap1 cap2 : Nat} {batch : Int} {f f' k k' : Nat → Int} (h : CountIn w base C g1 g2 batch n cap1 cap2 f k) (e1 : ∀ j, j < n → f j = f' j) (e2 : ∀ j, j < n → k j = k' j) : CountIn w base C g1 g2 batch n cap1 cap2 f' k' :=
  ⟨h.hC, h.r1.congr e1, h.r2.congr e2, h.c1, h.c2, h.gg, h.bC, h.b1, h.b2⟩
theorem CountIn.lower {w : World} {base b2 C g1 g2 n cap1 cap2 : Nat} {batch : Int} {f k : Nat → Int} (h : CountIn w base C g1 g2 batch n cap1 cap2 f k) (e : b2 ≤ base) : CountIn w b2 C g1 g2 batch n cap1 cap2 f k :=
  ⟨h.hC, h.r1, h.r2, h.c1, h.c2, h.gg, Nat.le_trans e h.bC, Nat.le_trans e h.b1, Nat.le_trans e h.b2⟩
section
variable {w : World} {Mb Cb Y : Nat} {p : Pl} {m : MS} {B : Bs}
/-- what Open needs -/
structure CanOpen (m : MS) (p : Pl) (B : Bs) (X Y : Nat) : Prop where
  hp : p.Ok
  gd : Good m (16 + p.L) p.S
  cut : m.cut = -1
  r1 : m.reg 1 = 0
  hB : B.Ok (p.L * 8)
  he : Enc (hW m p.L) B
  hr : RootOk B (m.reg 2)
  rg : ∀ j, j < p.pages → 0 ≤ m.reg (19 + j) ∧ m.reg (19 + j) ≤ X
  hX : X ≤ 1000000000000
  wr : m.writes ≤ Y
set_option maxRecDepth 100000 in
set_option maxHeartbeats 6400000 in
theorem open_any {X : Nat} (h : MemAt w Mb Cb m) (ho : CanOpen m p B X Y) :
    Calls Tryz.prog 59 #[.pointer (some ⟨Mb, 0, none⟩), p.v] w fun e w' => ∃ b : HB, e = .returned (.tuple #[.pointer (some ⟨b.HP, 0, none⟩), .int .i64 0]) ∧ b.Mb = Mb ∧ b.Cb = Cb ∧ HeapIn w' b p 0 m (fun j => m.reg (19 + j)) (fun j => m.reg (19 + j)) X Y ∧ Below w.heap.size w w' ∧ (∀ x ∈ [b.HP, b.TU, b.LN, b.LG, b.C, b.g1, b.g2], w.heap.size ≤ x) := by
  obtain ⟨i0, hi0, hz0, hz1, hz02⟩ := info_parts' info3
  have hp := ho.hp
  have hL := hp.hl
  have hq := newA w (.cells #[.int .i64 p.L, .int .i64 p.S, .int .i64 p.P, .int .i64 p.B] 23)
  have HB0 : Hid (Below w.heap.size w (w.alloc (.cells #[.int .i64 p.L, .int .i64 p.S, .int .i64 p.P, .int .i64 p.B] 23))) := Lib.hid ((Below.refl _ _).alloc (Nat.le_refl _) _)
  have HA := Lib.hid (h.alloc (.cells #[.int .i64 p.L, .int .i64 p.S, .int .i64 p.P, .int .i64 p.B] 23))
  have HMC := Lib.hid (And.intro h.hM.lt h.hL.lt)
  have HP := Lib.hid hp
  have HO := Lib.hid ho
  have HL := Lib.hid hL
  have KM := Lib.hid (hmay_any HA.out hp (by rw [ho.gd.hn]; omega) ho.gd.up)
  unfold Pl.v at KM ⊢
  have hql := lt_of_obj hq
  have hsz0 : (w.alloc (.cells #[.int .i64 p.L, .int .i64 p.S, .int .i64 p.P, .int .i64 p.B] 23)).heap.size = w.heap.size + 1 := by simp
  clear h hp ho hL
  go_enter Tryz.func59, Tryz.ntmps59
  go_wp2_with fail
  generalize w.alloc (.cells #[.int .i64 p.L, .int .i64 p.S, .int .i64 p.P, .int .i64 p.B] 23) = w0 at HA HB0 KM hq hql hsz0 ⊢
  generalize hbb : w.heap.size = bb at hq hql hsz0 HMC ⊢
  refine KM.out.mono ?_
  rintro _ w1 ⟨rfl, hb⟩
  have HA1 := Lib.hid (HA.out.below hb)
  have HB1 := Lib.hid (HB0.out.trans (hb.mono HB0.out.size))
  have hq1 := keep hb hq
  have hql1 := lt_of_obj hq1
  have HQL1 := Lib.hid hql1
  have KLN := fun w' (hb : Below w1.heap.size w1 w') => hlines_any (HA1.out.below hb) HP.out HO.out.gd
  unfold Pl.v at KLN
  have KLN := Lib.hid KLN
  clear hb KM HB0 HA hq hql
  go_wp2_with fail
  have hc0 : cellAt (obj w1 bb) 0 = some (.int .i64 p.L) ∧ cellAt (obj w1 bb) 1 = some (.int .i64 p.S) ∧ cellAt (obj w1 bb) 2 = some (.int .i64 p.P) ∧ cellAt (obj w1 bb) 3 = some (.int .i64 p.B) := by rw [hq1]; exact ⟨rfl, rfl, rfl, rfl⟩
  have HC0 := Lib.hid hc0
  have HQ1 := Lib.hid hq1
  obtain ⟨c0, c1, c2, c3⟩ := hc0
  clear hq1
  go_region_held3 (fun w' => cellAt (obj w' bb) 0 = some (.int .i64 p.L) ∧ cellAt (obj w' bb) 1 = some (.int .i64 p.S) ∧ cellAt (obj w' bb) 2 = some (.int .i64 p.P) ∧ cellAt (obj w' bb) 3 = some (.int .i64 p.B))
    (first
      | exact HC0.out
      | (rw [obj_below hb2 (show bb < w1.heap.size from HQL1.out)]; exact HC0.out)
      | (rw [keepA _ (keep hb2 HQ1.out)]; exact ⟨rfl, rfl, rfl, rfl⟩))
    (first
      | (go_at_call 54; refine (KLN.out _ (by first | exact Below.refl _ _ | exact (Below.refl _ _).drew)).mono ?_; rintro _ w2 ⟨TU, LN, rfl, ht, hTU, hLN, hb2⟩))
  have HT2 := Lib.hid ht
  have HN2 : Hid (w1.heap.size ≤ TU ∧ w1.heap.size ≤ LN) := Lib.hid ⟨hTU, hLN⟩
  have HB2 : Hid (Below w1.heap.size w1 w2) := Lib.hid ⟨hb2.os, hb2.tape, hb2.output, hb2.size, hb2.block⟩
  clear ht hTU hLN hb2 c0 c1 c2 c3 KLN
  have HN2L : Hid (TU < w2.heap.size ∧ LN < w2.heap.size ∧ Mb < w2.heap.size ∧ Cb < w2.heap.size ∧ bb < w2.heap.size) := Lib.hid ⟨lt_of_obj HT2.out.hT, lt_of_obj HT2.out.hL, HT2.out.hM.hM.lt, HT2.out.hM.hL.lt, Nat.lt_of_lt_of_le HQL1.out HB2.out.size⟩
  have HQ3 := Lib.hid (keepA (.cells #[.pointer (some ⟨Mb, 0, none⟩), .int .i64 p.L, .int .i64 p.S, .int .i64 p.P, .int .i64 p.B, .pointer (some ⟨TU, 0, none⟩), .pointer none, .pointer none, .bool false] 89) (keep HB2.out HQ1.out))
  have hh3 := newA w2 (.cells #[.pointer (some ⟨Mb, 0, none⟩), .int .i64 p.L, .int .i64 p.S, .int .i64 p.P, .int .i64 p.B, .pointer (some ⟨TU, 0, none⟩), .pointer none, .pointer none, .bool false] 89)
  have hs3 : (w2.alloc (.cells #[.pointer (some ⟨Mb, 0, none⟩), .int .i64 p.L, .int .i64 p.S, .int .i64 p.P, .int .i64 p.B, .pointer (some ⟨TU, 0, none⟩), .pointer none, .pointer none, .bool false] 89)).heap.size = w2.heap.size + 1 := by simp
  have HT3 := Lib.hid (HT2.out.alloc (.cells #[.pointer (some ⟨Mb, 0, none⟩), .int .i64 p.L, .int .i64 p.S, .int .i64 p.P, .int .i64 p.B, .pointer (some ⟨TU, 0, none⟩), .pointer none, .pointer none, .bool false] 89))
  have HB3 := Lib.hid ((HB1.out.trans (HB2.out.mono HB1.out.size)).alloc (HB1.out.trans (HB2.out.mono HB1.out.size)).size (.cells #[.pointer (some ⟨Mb, 0, none⟩), .int .i64 p.L, .int .i64 p.S, .int .i64 p.P, .int .i64 p.B, .pointer (some ⟨TU, 0, none⟩), .pointer none, .pointer none, .bool false] 89))
  generalize w2.alloc (.cells #[.pointer (some ⟨Mb, 0, none⟩), .int .i64 p.L, .int .i64 p.S, .int .i64 p.P, .int .i64 p.B, .pointer (some ⟨TU, 0, none⟩), .pointer none, .pointer none, .bool false] 89) = w3 at HQ3 hh3 hs3 HT3 HB3 ⊢
  obtain ⟨hp0, hhp⟩ : ∃ x, w2.heap.size = x := ⟨_, rfl⟩
  rw [hhp] at hh3 hs3 HN2L ⊢
  have HHP := Lib.hid hhp
  have HS3 := Lib.hid hs3
  have KG := Lib.hid (gnew_in HT3.out.hT (by have := HL.out; omega))
  have hlt3 : hp0 < w3.heap.size := by omega
  clear hhp hql1 hs3 HC0
  go_wp2_with fail
  refine KG.out.mono ?_
  rintro _ w4 ⟨rfl, rfl⟩
  go_wp2_with fail
  have k4 : Kept [hp0] w3 ((w3.setCell ⟨hp0, 6, none⟩ (.pointer (some ⟨w3.heap.size, 0, none⟩))).alloc (.cells #[.pointer (some ⟨Mb, 0, none⟩), .pointer (some ⟨TU, 0, none⟩)] 127)) := ((Kept.refl _ _).setCell _ (Or.inl (by simp))).alloc _
  have hlg : LogAt ((w3.setCell ⟨hp0, 6, none⟩ (.pointer (some ⟨w3.heap.size, 0, none⟩))).alloc (.cells #[.pointer (some ⟨Mb, 0, none⟩), .pointer (some ⟨TU, 0, none⟩)] 127)) w3.heap.size Mb TU := by
    have := newA (w3.setCell ⟨hp0, 6, none⟩ (.pointer (some ⟨w3.heap.size, 0, none⟩))) (.cells #[.pointer (some ⟨Mb, 0, none⟩), .pointer (some ⟨TU, 0, none⟩)] 127)
    unfold LogAt
    simpa using this
  have hhp4 : HpAt ((w3.setCell ⟨hp0, 6, none⟩ (.pointer (some ⟨w3.heap.size, 0, none⟩))).alloc (.cells #[.pointer (some ⟨Mb, 0, none⟩), .pointer (some ⟨TU, 0, none⟩)] 127)) hp0 Mb TU w3.heap.size p (.pointer none) false := by
    have h1 : obj (w3.setCell ⟨hp0, 6, none⟩ (.pointer (some ⟨w3.heap.size, 0, none⟩))) hp0 = some (.cells (hpC Mb TU w3.heap.size p (.pointer none) false) 89 (0, 0)) := by rw [obj_setCell_eq, hh3]; rfl
    exact keepA _ h1
  have hsz4 : ((w3.setCell ⟨hp0, 6, none⟩ (.pointer (some ⟨w3.heap.size, 0, none⟩))).alloc (.cells #[.pointer (some ⟨Mb, 0, none⟩), .pointer (some ⟨TU, 0, none⟩)] 127)).heap.size = w3.heap.size + 1 := by simp
  generalize (w3.setCell ⟨hp0, 6, none⟩ (.pointer (some ⟨w3.heap.size, 0, none⟩))).alloc (.cells #[.pointer (some ⟨Mb, 0, none⟩), .pointer (some ⟨TU, 0, none⟩)] 127) = w4 at k4 hlg hhp4 hsz4 ⊢
  have HSZ4 := Lib.hid hsz4
  have hnl := HN2L.out
  have HB4 : Hid (Below w.heap.size w w4) := Lib.hid (by
    have k : Kept [hp0] w w4 := (Kept.of_below HB3.out).trans k4
    refine k.below (Nat.le_refl _) fun n hn => ?_
    have := HMC.out
    simp at hn; omega)
  have HQ4 := Lib.hid (k4.keep HQ3.out (by simp; omega))
  have HT4 := Lib.hid (HT3.out.kept k4 (by simp; omega) (by simp; omega) (by simp; omega) (by simp; omega))
  obtain ⟨lg, hlgx⟩ : ∃ x, w3.heap.size = x := ⟨_, rfl⟩
  rw [hlgx] at hlg hhp4 hsz4 hlt3 ⊢
  have HLGX := Lib.hid hlgx
  have HLG := Lib.hid hlg
  have HH4 := Lib.hid hhp4
  have HLT3 := Lib.hid hlt3
  have KR := Lib.hid (recover_in hlg HT4.out.hM HO.out.gd.up HO.out.r1)
  have HGI : Hid (LogIn w4 lg TU LN Mb Cb (16 + p.L) p.S p.P 0 m) := Lib.hid ⟨hlg, HT4.out, by omega, by have := HL.out; omega⟩
  have KW := Lib.hid (hwords_any HH4.out HP.out HGI.out HO.out.gd HO.out.r1)
  clear k4 hlg hhp4 hnl hlgx HQ3 HT3 HB3 KG hh3 HA1 HB1 HQ1 HT2 hsz4
  go_wp2_with fail
  refine KR.out.mono ?_
  rintro _ _ ⟨rfl, rfl⟩
  go_wp2_with fail
  refine KW.out.mono ?_
  rintro _ w5 ⟨v, rfl, hs, hb5⟩
  have HS5 := Lib.hid hs
  have HB5 := Lib.hid hb5
  have KB := Lib.hid (blocks_any (B := 0) (HS5.out.mono (Nat.zero_le _)) HO.out.hB HO.out.he)
  obtain ⟨aov, capv, rfl⟩ := hs.form
  have KR2 : Calls Tryz.prog 53 #[.pointer (some ⟨Mb, 0, none⟩), .int .i64 2] w5 _ := reg_in (HT4.out.below hb5).hM HO.out.gd.up 2 (by decide)
  have KR2 := Lib.hid KR2
  clear hs hb5 KR KW
  go_wp2_with fail
  refine KR2.out.mono ?_
  rintro _ _ ⟨rfl, rfl⟩
  go_wp2_with fail
  refine KB.out.mono ?_
  rintro _ w6 ⟨vb, rfl, hrb, hb6⟩
  obtain ⟨aob, capb, rfl⟩ := hrb.form
  have HB6 := Lib.hid (HB5.out.trans (hb6.mono HB5.out.size))
  have HS6 := Lib.hid (HS5.out.below hb6)
  clear hrb hb6 KB KR2
  have HSB : Hid (∀ w7, Below w4.heap.size w4 w7 → Below w.heap.size w w7) := Lib.hid (fun w7 h => HB4.out.trans (h.mono HB4.out.size))
  obtain ⟨rt, hrt⟩ : ∃ rt, m.reg 2 = rt := ⟨_, rfl⟩
  have HRT := Lib.hid hrt
  rw [hrt]
  have hbnd := RootOk.bound HO.out.hB HO.out.hr
  rw [hrt] at hbnd
  have hrok := HO.out.hr
  rw [hrt] at hrok
  have hwr : wrap64 rt = rt := by unfold wrap64; omega
  have hwr2 : IntKind.i64.wrap rt = rt := by rw [IntKind.wrap_i64]; omega
  by_cases hr0 : rt = 0
  · have hz : (rt != 0) = false := by simp [hr0]
    have HB7 := Lib.hid HB6.out
    clear hr0 hrt hbnd hrok
    generalize w6 = w7 at HB7 ⊢
    have hq7 := keep HB7.out HQ4.out
    have hql7 := lt_of_obj hq7
    have KPG := pages_any HP.out w7
    unfold Pl.v at KPG
    obtain ⟨n, hn⟩ : ∃ n, (p.L - 1) / 4 + 1 = n := ⟨_, rfl⟩
    rw [hn] at KPG
    have KPG := Lib.hid KPG
    have HN := Lib.hid hn
    have HN16 : Hid (1 ≤ n ∧ n ≤ 16) := Lib.hid (by have := HL.out; omega)
    clear hn
    go_wp2_with fail
    refine KPG.out.mono ?_
    rintro _ w8 ⟨rfl, hb8⟩
    have HB8 := Lib.hid (HB7.out.trans (hb8.mono HB7.out.size))
    clear hb8 hq7 hql7 KPG
    go_wp2_with fail
    go_loopw [93, 14] (fun ix s wr => ∃ i : Nat, i ≤ n ∧ ix = .int .i64 i ∧ wr.ownsRow w8.heap.size 3 1 s i (flatF 1 (intF fun j => m.reg (19 + j)) i) ∧ (i = 0 → s = .slice none 0 0) ∧ Below w8.heap.size w8 wr) (fun ix _ _ => n - (intOf ix).toNat)
    case atStart => exact ⟨0, Nat.zero_le _, rfl, World.ownsRow_nil _ _ _ _, fun _ => rfl, Below.refl _ _⟩
    case round =>
      obtain ⟨i, hi, rfl, hown, hz2, hbr⟩ := hrel
      have HOW := Lib.hid hown
      have HZ2 := Lib.hid hz2
      have HBR := Lib.hid hbr
      have HBW := Lib.hid (HB8.out.trans (hbr.mono HB8.out.size))
      by_cases hlt : i < n
      · have hltz : (i : Int) < (n : Int) := by omega
        have i0' : (0 : Int) ≤ (i : Int) := Int.natCast_nonneg i
        have hn16 := HN16.out
        have wi : IntKind.i64.wrap ((i : Int) + 1) = (i : Int) + 1 := by rw [IntKind.wrap_i64]; omega
        have w19 : IntKind.i64.wrap (19 + (i : Int)) = ((19 + i : Nat) : Int) := by rw [IntKind.wrap_i64]; omega
        have KR3 : Calls Tryz.prog 53 #[.pointer (some ⟨Mb, 0, none⟩), .int .i64 ((19 + i : Nat) : Int)] _ _ := reg_in (HT4.out.below HBW.out).hM HO.out.gd.up (19 + i) (by omega)
        have hrg := HO.out.rg i (by have := HN.out; unfold Pl.pages; omega)
        have hxx := HO.out.hX
        have hsucc := flatF_succ 1 (intF fun j => m.reg (19 + j)) i
        have hnews : (List.range 1).map (intF (fun j => m.reg (19 + j)) i) = [.int .i64 (m.reg (19 + i))] := rfl
        rw [hnews] at hsucc
        obtain ⟨r, hr⟩ : ∃ r, m.reg (19 + i) = r := ⟨_, rfl⟩
        rw [hr] at KR3 hrg hsucc
        have KR3 := Lib.hid KR3
        have hmin : min r 1099511627776 = r := by omega
        have hcv : IntKind.i64.wrap r = r := by rw [IntKind.wrap_i64]; omega
        have HI := Lib.hid hlt
        have HSU := Lib.hid hsucc
        clear hi hlt hown hz2 hbr hrg hxx hsucc hnews hr hn16
        go_wp2_with fail
        refine KR3.out.mono ?_
        rintro _ _ ⟨rfl, rfl⟩
        go_wp2_with (at_builtin; refine wpList_append_lies _ rfl (.tmp 106) (.tmp 110) 53 rfl w8.heap.size 3 i0 _ 1 8 Tryz.underlying53 hi0 hz0 hz1 hz02 rfl (by decide) _ i _ rfl (HOW.out.alloc _) ⟨wr.heap.size, 0, none⟩ 1 1 [.int .i64 r] rfl rfl (news_new _ _ _) (by simp [Value.oneCell']) (by decide) (by have := HI.out; have := HN16.out; unfold maxLen; omega) (by have := HI.out; have := HN16.out; omega) (by have := HBR.out.size; simp; omega) (wr.heap.size + 1) (by simp) ?_; intro gA capA wA hownA hgrowA hatA hltA)
        exact ⟨⟨i + 1, HI.out, by simp, by rw [HSU.out]; exact hownA, (fun e => by omega), below_own HBR.out HBR.out.size HOW.out hgrowA⟩, by have := HI.out; simp only [intOf]; omega⟩
      · obtain rfl : i = n := by omega
        have hltz : ¬ (i : Int) < (i : Int) := by omega
        have HSL := Lib.hid (own_sl hown hz2)
        have hn16 := HN16.out
        obtain ⟨gk, offk, capk, rfl, _, _, _, hck⟩ := HSL.out.cells (by omega)
        have hck2 : ∀ j, j < i → cellAt (obj wr gk) (offk + j) = some (.int .i64 (((List.range i).map fun j => m.reg (19 + j)).getD j 0)) := fun j hj => by
          have := hck j hj 0 (by decide)
          rw [Nat.mul_one, Nat.add_zero] at this
          rw [this, List.getD_eq_getElem?_getD, List.getElem?_map, List.getElem?_range hj]
          rfl
        have KNW := Lib.hid (new_any p.B ((List.range i).map fun j => m.reg (19 + j)) gk offk i capk wr (by simp) (by omega) (by have := HP.out.hb; omega) (by have := HP.out.hb; omega) hck2)
        have hqr := keep HBW.out HQ4.out
        have hqrl := lt_of_obj hqr
        have hhr := keep HBW.out HH4.out
        unfold hpC at hhr
        have hhrl := lt_of_obj hhr
        clear hi hlt hown hz2 hbr hck hck2 hn16
        go_wp2_with fail
        refine KNW.out.mono ?_
        rintro _ w9 ⟨C, rfl, hca, hb9⟩
        obtain ⟨g1, g2, cp1, cp2, hci⟩ := hca.countIn (by have := HN16.out; simp; omega) rfl
        have hln : (((List.range i).map fun j => m.reg (19 + j)).map clampK).length = i := by simp
        rw [hln] at hci
        have hpi : p.pages = i := HN.out
        have hval : ∀ j, j < i → (((List.range i).map fun j => m.reg (19 + j)).map clampK).getD j 0 = m.reg (19 + j) := fun j hj => by
          rw [List.getD_eq_getElem?_getD, List.getElem?_map, List.getElem?_map, List.getElem?_range hj]
          have h1 := HO.out.rg j (by omega)
          have h2 := HO.out.hX
          show clampK (m.reg (19 + j)) = _
          unfold clampK
          omega
        have HCI := Lib.hid (hci.congr hval hval)
        have hb49 : Below w4.heap.size w4 w9 := HBW.out.trans (hb9.mono HBW.out.size)
        have HB49 := Lib.hid hb49
        have HSR := Lib.hid (And.intro HBW.out.size hb9.size)
        have hh9 := keep hb9 hhr
        have hh9l := lt_of_obj hh9
        clear hca hci hln hval hb9 KNW hqr hqrl hhr hhrl hb49
        go_wp2_with fail
        go_ret2
        have k10 : Kept [hp0] w9 (w9.setCell ⟨hp0, 7, none⟩ (.pointer (some ⟨C, 0, none⟩))) := (Kept.refl _ _).setCell _ (Or.inl (by simp))
        have hnl := HN2L.out
        have hs4 := HSZ4.out
        have hs3 := HS3.out
        have hlx := HLGX.out
        have hsr := HSR.out
        have hc1 := HCI.out.bC
        have hc2 := HCI.out.b1
        have hc3 := HCI.out.b2
        have hcg := HCI.out.gg
        refine ⟨⟨hp0, Mb, Cb, TU, LN, lg, C, g1, g2, cp1, cp2⟩, rfl, rfl, rfl, ?_, ?_, ?_⟩
        · exact
            { hp := HP.out
              hH := by
                unfold HpAt
                rw [obj_setCell_eq, hh9]
                rfl
              hG := (HGI.out.below HB49.out).kept k10 (by simp; omega) (by simp; omega) (by simp; omega) (by simp; omega) (by simp; omega)
              gd := HO.out.gd
              cut := HO.out.cut
              r1 := HO.out.r1
              hC := by rw [hpi]; exact (HCI.out.lower (Nat.zero_le _)).kept k10 (by simp; omega) (by simp; omega) (by simp; omega)
              ap := by intro x hx; simp at hx ⊢; omega
              ap2 := by intro x hx; simp at hx ⊢; omega
              ne3 := by simp; omega
              nn := fun j hj => ⟨(HO.out.rg j hj).1, Int.le_refl _, (HO.out.rg j hj).2⟩
              regs := fun j hj => rfl
              lg := fun j hj => by have := HP.out.hb; omega
              wr := HO.out.wr }
        · have k : Kept [hp0] w (w9.setCell ⟨hp0, 7, none⟩ (.pointer (some ⟨C, 0, none⟩))) := (Kept.of_below (HSB.out _ HB49.out)).trans k10
          refine k.below (by omega) fun n hn => ?_
          have := HMC.out
          simp at hn
          omega
        · have hq1 := HQL1.out
          have htu := HN2.out
          intro x hx
          simp at hx
          omega
  · have hz : (rt != 0) = true := by simp [hr0]
    have hbg : ¬ rt > 1048576 := by omega
    have hbg2 : decide (1048576 < rt) = false := decide_eq_false (by omega)
    have KI := Lib.hid (is_any (B := 0) (HS6.out.mono (Nat.zero_le _)) HO.out.hB HO.out.he rt)
    have HYES : Hid (∃ i, i < B.n ∧ findP rt (B.at i, B.sz i, B.us i) = true) := Lib.hid (hrok.resolve_left hr0)
    clear hr0 hrt hrok hbnd
    go_wp2_with fail
    refine KI.out.mono ?_
    rintro _ w7 ⟨r, rfl, hb7, _, hno⟩
    obtain rfl : r = true := by
      cases r
      · obtain ⟨i, hi, hf⟩ := HYES.out
        rw [hno rfl i hi] at hf
        cases hf
      · rfl
    have HB7 := Lib.hid (HB6.out.trans (hb7.mono HB6.out.size))
    clear hb7 hno KI
    have hq7 := keep HB7.out HQ4.out
    have hql7 := lt_of_obj hq7
    have KPG := pages_any HP.out w7
    unfold Pl.v at KPG
    obtain ⟨n, hn⟩ : ∃ n, (p.L - 1) / 4 + 1 = n := ⟨_, rfl⟩
    rw [hn] at KPG
    have KPG := Lib.hid KPG
    have HN := Lib.hid hn
    have HN16 : Hid (1 ≤ n ∧ n ≤ 16) := Lib.hid (by have := HL.out; omega)
    clear hn
    go_wp2_with fail
    refine KPG.out.mono ?_
    rintro _ w8 ⟨rfl, hb8⟩
    have HB8 := Lib.hid (HB7.out.trans (hb8.mono HB7.out.size))
    clear hb8 hq7 hql7 KPG
    go_wp2_with fail
    go_loopw [93, 14] (fun ix s wr => ∃ i : Nat, i ≤ n ∧ ix = .int .i64 i ∧ wr.ownsRow w8.heap.size 3 1 s i (flatF 1 (intF fun j => m.reg (19 + j)) i) ∧ (i = 0 → s = .slice none 0 0) ∧ Below w8.heap.size w8 wr) (fun ix _ _ => n - (intOf ix).toNat)
    case atStart => exact ⟨0, Nat.zero_le _, rfl, World.ownsRow_nil _ _ _ _, fun _ => rfl, Below.refl _ _⟩
    case round =>
      obtain ⟨i, hi, rfl, hown, hz2, hbr⟩ := hrel
      have HOW := Lib.hid hown
      have HZ2 := Lib.hid hz2
      have HBR := Lib.hid hbr
      have HBW := Lib.hid (HB8.out.trans (hbr.mono HB8.out.size))
      by_cases hlt : i < n
      · have hltz : (i : Int) < (n : Int) := by omega
        have i0' : (0 : Int) ≤ (i : Int) := Int.natCast_nonneg i
        have hn16 := HN16.out
        have wi : IntKind.i64.wrap ((i : Int) + 1) = (i : Int) + 1 := by rw [IntKind.wrap_i64]; omega
        have w19 : IntKind.i64.wrap (19 + (i : Int)) = ((19 + i : Nat) : Int) := by rw [IntKind.wrap_i64]; omega
        have KR3 : Calls Tryz.prog 53 #[.pointer (some ⟨Mb, 0, none⟩), .int .i64 ((19 + i : Nat) : Int)] _ _ := reg_in (HT4.out.below HBW.out).hM HO.out.gd.up (19 + i) (by omega)
        have hrg := HO.out.rg i (by have := HN.out; unfold Pl.pages; omega)
        have hxx := HO.out.hX
        have hsucc := flatF_succ 1 (intF fun j => m.reg (19 + j)) i
        have hnews : (List.range 1).map (intF (fun j => m.reg (19 + j)) i) = [.int .i64 (m.reg (19 + i))] := rfl
        rw [hnews] at hsucc
        obtain ⟨r, hr⟩ : ∃ r, m.reg (19 + i) = r := ⟨_, rfl⟩
        rw [hr] at KR3 hrg hsucc
        have KR3 := Lib.hid KR3
        have hmin : min r 1099511627776 = r := by omega
        have hcv : IntKind.i64.wrap r = r := by rw [IntKind.wrap_i64]; omega
        have HI := Lib.hid hlt
        have HSU := Lib.hid hsucc
        clear hi hlt hown hz2 hbr hrg hxx hsucc hnews hr hn16
        go_wp2_with fail
        refine KR3.out.mono ?_
        rintro _ _ ⟨rfl, rfl⟩
        go_wp2_with (at_builtin; refine wpList_append_lies _ rfl (.tmp 106) (.tmp 110) 53 rfl w8.heap.size 3 i0 _ 1 8 Tryz.underlying53 hi0 hz0 hz1 hz02 rfl (by decide) _ i _ rfl (HOW.out.alloc _) ⟨wr.heap.size, 0, none⟩ 1 1 [.int .i64 r] rfl rfl (news_new _ _ _) (by simp [Value.oneCell']) (by decide) (by have := HI.out; have := HN16.out; unfold maxLen; omega) (by have := HI.out; have := HN16.out; omega) (by have := HBR.out.size; simp; omega) (wr.heap.size + 1) (by simp) ?_; intro gA capA wA hownA hgrowA hatA hltA)
        exact ⟨⟨i + 1, HI.out, by simp, by rw [HSU.out]; exact hownA, (fun e => by omega), below_own HBR.out HBR.out.size HOW.out hgrowA⟩, by have := HI.out; simp only [intOf]; omega⟩
      · obtain rfl : i = n := by omega
        have hltz : ¬ (i : Int) < (i : Int) := by omega
        have HSL := Lib.hid (own_sl hown hz2)
        have hn16 := HN16.out
        obtain ⟨gk, offk, capk, rfl, _, _, _, hck⟩ := HSL.out.cells (by omega)
        have hck2 : ∀ j, j < i → cellAt (obj wr gk) (offk + j) = some (.int .i64 (((List.range i).map fun j => m.reg (19 + j)).getD j 0)) := fun j hj => by
          have := hck j hj 0 (by decide)
          rw [Nat.mul_one, Nat.add_zero] at this
          rw [this, List.getD_eq_getElem?_getD, List.getElem?_map, List.getElem?_range hj]
          rfl
        have KNW := Lib.hid (new_any p.B ((List.range i).map fun j => m.reg (19 + j)) gk offk i capk wr (by simp) (by omega) (by have := HP.out.hb; omega) (by have := HP.out.hb; omega) hck2)
        have hqr := keep HBW.out HQ4.out
        have hqrl := lt_of_obj hqr
        have hhr := keep HBW.out HH4.out
        unfold hpC at hhr
        have hhrl := lt_of_obj hhr
        clear hi hlt hown hz2 hbr hck hck2 hn16
        go_wp2_with fail
        refine KNW.out.mono ?_
        rintro _ w9 ⟨C, rfl, hca, hb9⟩
        obtain ⟨g1, g2, cp1, cp2, hci⟩ := hca.countIn (by have := HN16.out; simp; omega) rfl
        have hln : (((List.range i).map fun j => m.reg (19 + j)).map clampK).length = i := by simp
        rw [hln] at hci
        have hpi : p.pages = i := HN.out
        have hval : ∀ j, j < i → (((List.range i).map fun j => m.reg (19 + j)).map clampK).getD j 0 = m.reg (19 + j) := fun j hj => by
          rw [List.getD_eq_getElem?_getD, List.getElem?_map, List.getElem?_map, List.getElem?_range hj]
          have h1 := HO.out.rg j (by omega)
          have h2 := HO.out.hX
          show clampK (m.reg (19 + j)) = _
          unfold clampK
          omega
        have HCI := Lib.hid (hci.congr hval hval)
        have hb49 : Below w4.heap.size w4 w9 := HBW.out.trans (hb9.mono HBW.out.size)
        have HB49 := Lib.hid hb49
        have HSR := Lib.hid (And.intro HBW.out.size hb9.size)
        have hh9 := keep hb9 hhr
        have hh9l := lt_of_obj hh9
        clear hca hci hln hval hb9 KNW hqr hqrl hhr hhrl hb49
        go_wp2_with fail
        go_ret2
        have k10 : Kept [hp0] w9 (w9.setCell ⟨hp0, 7, none⟩ (.pointer (some ⟨C, 0, none⟩))) := (Kept.refl _ _).setCell _ (Or.inl (by simp))
        have hnl := HN2L.out
        have hs4 := HSZ4.out
        have hs3 := HS3.out
        have hlx := HLGX.out
        have hsr := HSR.out
        have hc1 := HCI.out.bC
        have hc2 := HCI.out.b1
        have hc3 := HCI.out.b2
        have hcg := HCI.out.gg
        refine ⟨⟨hp0, Mb, Cb, TU, LN, lg, C, g1, g2, cp1, cp2⟩, rfl, rfl, rfl, ?_, ?_, ?_⟩
        · exact
            { hp := HP.out
              hH := by
                unfold HpAt
                rw [obj_setCell_eq, hh9]
                rfl
              hG := (HGI.out.below HB49.out).kept k10 (by simp; omega) (by simp; omega) (by simp; omega) (by simp; omega) (by simp; omega)
              gd := HO.out.gd
              cut := HO.out.cut
              r1 := HO.out.r1
              hC := by rw [hpi]; exact (HCI.out.lower (Nat.zero_le _)).kept k10 (by simp; omega) (by simp; omega) (by simp; omega)
              ap := by intro x hx; simp at hx ⊢; omega
              ap2 := by intro x hx; simp at hx ⊢; omega
              ne3 := by simp; omega
              nn := fun j hj => ⟨(HO.out.rg j hj).1, Int.le_refl _, (HO.out.rg j hj).2⟩
              regs := fun j hj => rfl
              lg := fun j hj => by have := HP.out.hb; omega
              wr := HO.out.wr }
        · have k : Kept [hp0] w (w9.setCell ⟨hp0, 7, none⟩ (.pointer (some ⟨C, 0, none⟩))) := (Kept.of_below (HSB.out _ HB49.out)).trans k10
          refine k.below (by omega) fun n hn => ?_
          have := HMC.out
          simp at hn
          omega
        · have hq1 := HQL1.out
          have htu := HN2.out
          intro x hx
          simp at hx
          omega
end
end Go.Proofs.YtphmfaddgpjndaaGreat

/- tower.open, Heap, Writes. -/
namespace Go.Proofs.YtphmfaddgpjndaaGreat
open Go.ChangeShapes Go.WideShapes Go.RowKit Go.Maps

/-- a tower's block -/
def twC (p : Pl) (Mb : Nat) (hv : Value) (cost : Int) : Array Value := #[.int .i64 p.L, .int .i64 p.S, .int .i64 p.P, .int .i64 p.B, .pointer (some ⟨Mb, 0, none⟩), hv, .int .i64 cost]
def TwAt (w : World) (TW : Nat) (p : Pl) (Mb : Nat) (hv : Value) (cost : Int) : Prop := obj w TW = some (.cells (twC p Mb hv cost) 69 (0, 0))
def HB.list (b : HB) : List Nat := [b.HP, b.Mb, b.Cb, b.TU, b.LN, b.LG, b.C, b.g1, b.g2]
section
variable {w : World} {TW Mb Cb Y : Nat} {p : Pl} {m : MS} {B : Bs}
set_option maxRecDepth 100000 in
set_option maxHeartbeats 3200000 in
theorem topen_any {X : Nat} {hv : Value} {cost : Int} (ht : TwAt w TW p Mb hv cost) (h : MemAt w Mb Cb m) (ho : CanOpen m p B X Y) (hn : TW ≠ Mb ∧ TW ≠ Cb) :
    Calls Tryz.prog 30 #[.pointer (some ⟨TW, 0, none⟩)] w fun e w' => ∃ b : HB, e = .returned (.int .i64 0) ∧ b.Mb = Mb ∧ b.Cb = Cb ∧ HeapIn w' b p 0 m (fun j => m.reg (19 + j)) (fun j => m.reg (19 + j)) X Y ∧
      TwAt w' TW p Mb (.pointer (some ⟨b.HP, 0, none⟩)) cost ∧ TW ∉ b.list ∧ (∀ x ∈ [b.HP, b.TU, b.LN, b.LG, b.C, b.g1, b.g2], w.heap.size ≤ x) ∧ Kept [TW] w w' := by
  have hT : obj w TW = some (.cells (twC p Mb hv cost) 69 (0, 0)) := ht
  have hlt := lt_of_obj hT
  have HT := Lib.hid hT
  have KO := fun w' (hb : Below w.heap.size w w') => open_any (X := X) (h.below hb) ho
  unfold Pl.v at KO
  have KO := Lib.hid KO
  have HN := Lib.hid hn
  have HLT := Lib.hid hlt
  obtain ⟨c0, c1, c2, c3, c4⟩ : cellAt (obj w TW) 0 = some (.int .i64 p.L) ∧ cellAt (obj w TW) 1 = some (.int .i64 p.S) ∧ cellAt (obj w TW) 2 = some (.int .i64 p.P) ∧ cellAt (obj w TW) 3 = some (.int .i64 p.B) ∧ cellAt (obj w TW) 4 = some (.pointer (some ⟨Mb, 0, none⟩)) := by rw [hT]; exact ⟨rfl, rfl, rfl, rfl, rfl⟩
  have HC := Lib.hid (And.intro c0 (And.intro c1 (And.intro c2 (And.intro c3 c4))))
  clear ht h ho hn hT
  go_enter Tryz.func30, Tryz.ntmps30
  go_wp2_with fail
  go_region_held3 (fun w' => cellAt (obj w' TW) 0 = some (.int .i64 p.L) ∧ cellAt (obj w' TW) 1 = some (.int .i64 p.S) ∧ cellAt (obj w' TW) 2 = some (.int .i64 p.P) ∧ cellAt (obj w' TW) 3 = some (.int .i64 p.B) ∧ cellAt (obj w' TW) 4 = some (.pointer (some ⟨Mb, 0, none⟩)))
    (first
      | exact HC.out
      | (rw [obj_below hb HLT.out]; exact HC.out))
    (first
      | (go_at_call 59; refine (KO.out _ (by first | exact Below.refl _ _ | exact (Below.refl _ _).drew)).mono ?_; rintro _ w3 ⟨b, rfl, h1, h2, hh, hb, hnew⟩))
  have hb3 : Below w.heap.size w w3 := ⟨hb.os, hb.tape, hb.output, hb.size, hb.block⟩
  have hT3 := keep hb3 HT.out
  have hlt3 := lt_of_obj hT3
  have HH := Lib.hid hh
  have HB3 := Lib.hid hb3
  have HMC := Lib.hid (And.intro h1 h2)
  have HNEW : Hid (∀ x ∈ [b.HP, b.TU, b.LN, b.LG, b.C, b.g1, b.g2], w.heap.size ≤ x) := Lib.hid hnew
  unfold twC at hT3
  clear h1 h2 hh hb hb3 c0 c1 c2 c3 c4 hnew
  go_wp2_with fail
  go_ret
  have k3 : Kept [TW] w3 (w3.setCell ⟨TW, 5, none⟩ (.pointer (some ⟨b.HP, 0, none⟩))) := (Kept.refl _ _).setCell _ (Or.inl (by simp))
  have hnl : TW ∉ b.list := by
    intro hx
    have h1 := HNEW.out
    have h2 := HLT.out
    have h3 := HN.out
    have h4 := HMC.out
    unfold HB.list at hx
    simp at hx h1
    rw [h4.1, h4.2] at hx
    omega
  refine ⟨b, rfl, HMC.out.1, HMC.out.2, HH.out.kept k3 (fun x hx => by simp; exact fun e => hnl (e ▸ hx)), ?_, hnl, HNEW.out, (Kept.of_below HB3.out).trans k3⟩
  unfold TwAt
  rw [obj_setCell_eq, hT3]
  rfl
set_option maxHeartbeats 800000 in
theorem theap_any {hv : Value} {cost : Int} (ht : TwAt w TW p Mb hv cost) : Calls Tryz.prog 18 #[.pointer (some ⟨TW, 0, none⟩)] w fun e w' => e = .returned hv ∧ w = w' := by
  have hT : obj w TW = some (.cells (twC p Mb hv cost) 69 (0, 0)) := ht
  unfold twC at hT
  clear ht
  go_enter Tryz.func18, Tryz.ntmps18
  go_wp2
  go_ret
  exact ⟨rfl, rfl⟩
set_option maxHeartbeats 800000 in
theorem writes_any (h : MemAt w Mb Cb m) : Calls Tryz.prog 31 #[.pointer (some ⟨Mb, 0, none⟩)] w fun e w' => e = .returned (.int .i64 m.writes) ∧ w = w' := by
  have c36 := h.c36
  clear h
  go_enter Tryz.func31, Tryz.ntmps31
  go_wp2
  go_ret
  exact ⟨rfl, rfl⟩
end
end Go.Proofs.YtphmfaddgpjndaaGreat

/- Blocks taken and given back are blocks side by side again (no program in sight). -/
namespace Go.Proofs.YtphmfaddgpjndaaGreat
open Go.ChangeShapes Go.WideShapes Go.RowKit Go.Maps

theorem Bs.at_congr {b b' : Bs} {j : Nat} (h : ∀ i, i < j → b.sz i = b'.sz i) : b.at j = b'.at j := by
  induction j with
  | zero => rfl
  | succ j ih =>
    show b.at j + b.sz j = b'.at j + b'.sz j
    rw [ih fun i hi => h i (by omega), h j (by omega)]
/-- block k is taken: t words of it -/
def Bs.carve (b : Bs) (k t : Nat) : Bs :=
  if t = b.sz k then ⟨b.n, b.sz, fun j => if j = k then true else b.us j⟩
  else ⟨b.n + 1, fun j => if j < k then b.sz j else if j = k then t else if j = k + 1 then b.sz k - t else b.sz (j - 1), fun j => if j < k then b.us j else if j = k then true else if j = k + 1 then false else b.us (j - 1)⟩
/-- blocks f to t - 1 are one, and free -/
def Bs.merge (b : Bs) (f t : Nat) : Bs :=
  ⟨b.n - (t - f) + 1, fun j => if j < f then b.sz j else if j = f then b.at t - b.at f else b.sz (j + (t - f) - 1), fun j => if j < f then b.us j else if j = f then false else b.us (j + (t - f) - 1)⟩
section
variable {b : Bs} {N k t f i : Nat}
theorem Bs.at_succ (b : Bs) (j : Nat) : b.at (j + 1) = b.at j + b.sz j := rfl
/-! ### taken -/
theorem carve_lo (hj : i ≤ k) : (b.carve k t).at i = b.at i := by
  refine Bs.at_congr fun x hx => ?_
  unfold Bs.carve
  split
  · rfl
  · show (if x < k then b.sz x else _) = _
    rw [if_pos (by omega)]
theorem carve_hi (ht : t ≠ b.sz k) (hts : t ≤ b.sz k) : ∀ i, (b.carve k t).at (k + 2 + i) = b.at (k + 1 + i)
  | 0 => by
    show (b.carve k t).at k + (b.carve k t).sz k + (b.carve k t).sz (k + 1) = b.at k + b.sz k
    rw [carve_lo (Nat.le_refl _)]
    unfold Bs.carve
    rw [if_neg ht]
    simp only [Nat.lt_irrefl, if_false, if_true, show ¬ k + 1 < k by omega, show ¬ k + 1 = k by omega]
    omega
  | i + 1 => by
    show (b.carve k t).at (k + 2 + i) + (b.carve k t).sz (k + 2 + i) = b.at (k + 1 + i) + b.sz (k + 1 + i)
    rw [carve_hi ht hts i]
    congr 1
    unfold Bs.carve
    rw [if_neg ht]
    show (if k + 2 + i < k then _ else if k + 2 + i = k then _ else if k + 2 + i = k + 1 then _ else b.sz (k + 2 + i - 1)) = _
    rw [if_neg (by omega), if_neg (by omega), if_neg (by omega)]
    congr 1
    omega
theorem carve_full_at (ht : t = b.sz k) (i : Nat) : (b.carve k t).at i = b.at i := by
  refine Bs.at_congr fun x hx => ?_
  unfold Bs.carve
  rw [if_pos ht]
theorem carve_n : (b.carve k t).n = if t = b.sz k then b.n else b.n + 1 := by
  unfold Bs.carve; split <;> rfl
theorem carve_ok (hb : b.Ok N) (hk : k < b.n) (hu : b.us k = false) (ht : 2 ≤ t ∧ (t = b.sz k ∨ t + 2 ≤ b.sz k)) : (b.carve k t).Ok N := by
  by_cases e : t = b.sz k
  · refine ⟨fun j hj => ?_, ?_, fun j hj => ?_, hb.big⟩
    · unfold Bs.carve at hj ⊢
      rw [if_pos e] at hj ⊢
      exact hb.two j hj
    · rw [carve_n, if_pos e, carve_full_at e]; exact hb.sum
    · rw [carve_n, if_pos e] at hj
      have := hb.alt j hj
      unfold Bs.carve
      rw [if_pos e]
      show (if j = k then true else b.us j) = true ∨ (if j + 1 = k then true else b.us (j + 1)) = true
      by_cases e1 : j = k
      · left; rw [if_pos e1]
      · by_cases e2 : j + 1 = k
        · right; rw [if_pos e2]
        · rw [if_neg e1, if_neg e2]; exact this
  · have ht2 := ht.2.resolve_left e
    refine ⟨fun j hj => ?_, ?_, fun j hj => ?_, hb.big⟩
    · rw [carve_n, if_neg e] at hj
      unfold Bs.carve
      rw [if_neg e]
      show 2 ≤ (if j < k then b.sz j else if j = k then t else if j = k + 1 then b.sz k - t else b.sz (j - 1))
      split
      · exact hb.two j (by omega)
      · split
        · omega
        · split
          · omega
          · exact hb.two _ (by omega)
    · rw [carve_n, if_neg e, show b.n + 1 = k + 2 + (b.n - k - 1) by omega, carve_hi e (by omega), show k + 1 + (b.n - k - 1) = b.n by omega]
      exact hb.sum
    · rw [carve_n, if_neg e] at hj
      unfold Bs.carve
      rw [if_neg e]
      show (if j < k then b.us j else if j = k then true else if j = k + 1 then false else b.us (j - 1)) = true ∨ (if j + 1 < k then b.us (j + 1) else if j + 1 = k then true else if j + 1 = k + 1 then false else b.us (j + 1 - 1)) = true
      by_cases e1 : j < k
      · rw [if_pos e1]
        by_cases e2 : j + 1 < k
        · rw [if_pos e2]; exact hb.alt j (by omega)
        · right; rw [if_neg e2, if_pos (by omega)]
      · rw [if_neg e1]
        by_cases e2 : j = k
        · left; rw [if_pos e2]
        · rw [if_neg e2]
          by_cases e3 : j = k + 1
          · right
            rw [if_neg (by omega), if_neg (by omega), if_neg (by omega), show j + 1 - 1 = k + 1 by omega]
            rcases hb.alt k (by omega) with h | h
            · rw [hu] at h; cases h
            · exact h
          · rw [if_neg e3, if_neg (by omega), if_neg (by omega), if_neg (by omega)]
            have := hb.alt (j - 1) (by omega)
            rw [show j - 1 + 1 = j + 1 - 1 by omega] at this
            exact this
/-- the words behind a taking -/
def carW (b : Bs) (W : Nat → Int) (k need : Nat) : Nat → Int := appl (b.at k) (carV (b.sz k) (takesN (b.sz k) need)) W (carC (takesN (b.sz k) need) (takM (b.sz k) (takesN (b.sz k) need)))
theorem takes_two {s need : Nat} (h : 2 ≤ need ∧ need ≤ s) : 2 ≤ takesN s need ∧ (takesN s need = s ∨ takesN s need + 2 ≤ s) ∧ takesN s need ≤ s ∧ need ≤ takesN s need := by
  unfold takesN; split <;> omega
theorem carC_eq {s t : Nat} : carC t (takM s t) = if t < s then t + 1 else t := by
  unfold carC takM; split <;> simp
theorem carW_out (W : Nat → Int) {need : Nat} (h : 2 ≤ need ∧ need ≤ b.sz k) {x : Nat} (hx : x < b.at k ∨ b.at k + b.sz k ≤ x) : carW b W k need x = W x := by
  have := takes_two h
  unfold carW appl
  rw [carC_eq, if_neg]
  split <;> omega
theorem carW_in (W : Nat → Int) {need : Nat} (h : 2 ≤ need ∧ need ≤ b.sz k) {x : Nat} (hx : x < takesN (b.sz k) need) : carW b W k need (b.at k + x) = if x = 0 then ((hdr (takesN (b.sz k) need) true : Nat) : Int) else 0 := by
  have := takes_two h
  unfold carW appl
  rw [carC_eq, if_pos (by split <;> omega)]
  unfold carV
  rw [show b.at k + x - b.at k = x by omega]
  split
  · rfl
  · rw [if_neg (by omega)]
theorem carW_rest (W : Nat → Int) {need : Nat} (h : 2 ≤ need ∧ need ≤ b.sz k) (hr : takesN (b.sz k) need < b.sz k) : carW b W k need (b.at k + takesN (b.sz k) need) = (hdr (b.sz k - takesN (b.sz k) need) false : Nat) := by
  have := takes_two h
  unfold carW appl
  rw [carC_eq, if_pos hr, if_pos (by omega)]
  unfold carV
  rw [show b.at k + takesN (b.sz k) need - b.at k = takesN (b.sz k) need by omega, if_neg (by omega), if_pos rfl]
theorem carve_enc (hb : b.Ok N) (hk : k < b.n) {W : Nat → Int} (he : Enc W b) {need : Nat} (h : 2 ≤ need ∧ need ≤ b.sz k) : Enc (carW b W k need) (b.carve k (takesN (b.sz k) need)) := by
  have ht := takes_two h
  have hmono := fun (i j : Nat) (h : i ≤ j) => b.at_mono h
  intro j hj
  by_cases e : takesN (b.sz k) need = b.sz k
  · rw [carve_n, if_pos e] at hj
    rw [carve_full_at e]
    have hsz : (b.carve k (takesN (b.sz k) need)).sz j = b.sz j := by unfold Bs.carve; rw [if_pos e]
    have hus : (b.carve k (takesN (b.sz k) need)).us j = if j = k then true else b.us j := by unfold Bs.carve; rw [if_pos e]
    rw [hsz, hus]
    by_cases ej : j = k
    · subst ej
      have := carW_in (b := b) (k := j) W h (x := 0) (by omega)
      rw [Nat.add_zero, if_pos rfl, e] at this
      rw [this, if_pos rfl]
    · rw [if_neg ej, carW_out W h, he j hj]
      by_cases el : j < k
      · left
        have h1 := hmono (j + 1) k (by omega)
        have h2 := hb.two j hj
        rw [b.at_succ] at h1; omega
      · right
        have h1 := hmono (k + 1) j (by omega)
        rw [b.at_succ] at h1; omega
  · rw [carve_n, if_neg e] at hj
    have hr : takesN (b.sz k) need < b.sz k := by omega
    have hsz : (b.carve k (takesN (b.sz k) need)).sz j = if j < k then b.sz j else if j = k then takesN (b.sz k) need else if j = k + 1 then b.sz k - takesN (b.sz k) need else b.sz (j - 1) := by unfold Bs.carve; rw [if_neg e]
    have hus : (b.carve k (takesN (b.sz k) need)).us j = if j < k then b.us j else if j = k then true else if j = k + 1 then false else b.us (j - 1) := by unfold Bs.carve; rw [if_neg e]
    rw [hsz, hus]
    by_cases e1 : j < k
    · rw [carve_lo (by omega), if_pos e1, if_pos e1, carW_out W h, he j (by omega)]
      left
      have h1 := hmono (j + 1) k (by omega)
      have h2 := hb.two j (by omega)
      rw [b.at_succ] at h1; omega
    · rw [if_neg e1, if_neg e1]
      by_cases e2 : j = k
      · subst e2
        rw [carve_lo (Nat.le_refl _), if_pos rfl, if_pos rfl]
        have := carW_in (b := b) (k := j) W h (x := 0) (by omega)
        rwa [Nat.add_zero, if_pos rfl] at this
      · rw [if_neg e2, if_neg e2]
        by_cases e3 : j = k + 1
        · subst e3
          rw [if_pos rfl, if_pos rfl, (b.carve k (takesN (b.sz k) need)).at_succ, carve_lo (Nat.le_refl _)]
          have hk2 : (b.carve k (takesN (b.sz k) need)).sz k = takesN (b.sz k) need := by unfold Bs.carve; rw [if_neg e]; show (if k < k then _ else if k = k then _ else _) = _; rw [if_neg (by omega), if_pos rfl]
          rw [hk2]
          exact carW_rest W h hr
        · rw [if_neg e3, if_neg e3]
          obtain ⟨x, rfl⟩ : ∃ x, j = k + 2 + x := ⟨j - k - 2, by omega⟩
          rw [carve_hi e (by omega), carW_out W h, he _ (by omega), show k + 2 + x - 1 = k + 1 + x by omega]
          right
          have h1 := hmono (k + 1) (k + 1 + x) (by omega)
          rw [b.at_succ] at h1; omega
/-! ### given back -/
theorem merge_lo (hi : i ≤ f) : (b.merge f t).at i = b.at i := by
  refine Bs.at_congr fun x hx => ?_
  show (if x < f then b.sz x else _) = _
  rw [if_pos (by omega)]
theorem merge_hi (hft : f < t) : ∀ i, (b.merge f t).at (f + 1 + i) = b.at (t + i)
  | 0 => by
    show (b.merge f t).at f + (b.merge f t).sz f = b.at t
    rw [merge_lo (Nat.le_refl _)]
    have h := b.at_mono (Nat.le_of_lt hft)
    show b.at f + (if f < f then _ else if f = f then b.at t - b.at f else _) = _
    rw [if_neg (by omega), if_pos rfl]
    omega
  | i + 1 => by
    show (b.merge f t).at (f + 1 + i) + (b.merge f t).sz (f + 1 + i) = b.at (t + i) + b.sz (t + i)
    rw [merge_hi hft i]
    congr 1
    show (if f + 1 + i < f then _ else if f + 1 + i = f then _ else b.sz (f + 1 + i + (t - f) - 1)) = _
    rw [if_neg (by omega), if_neg (by omega)]
    congr 1
    omega
/-- what merge.around tells -/
structure Around (b : Bs) (i f t : Nat) : Prop where
  lo : f ≤ i ∧ i < t
  hi : t ≤ b.n
  free : ∀ j, f ≤ j → j < t → j ≠ i → b.us j = false
  usL : 0 < f → b.us (f - 1) = true
  usR : t < b.n → b.us t = true
theorem around_of (hb : b.Ok N) (hi : i < b.n) : Around b i (fromM b i) (toM b i) := by
  have hf := fromM_le b i
  have ht := toM_le b hi
  refine ⟨by omega, ht.2.1, fun j h1 h2 h3 => ?_, fun h => ?_, fun h => ?_⟩
  · unfold fromM at h1
    unfold toM at h2
    by_cases e : j < i
    · by_cases c : 0 < i ∧ b.us (i - 1) = false
      · rw [if_pos c] at h1
        rw [show j = i - 1 by omega]; exact c.2
      · rw [if_neg c] at h1; omega
    · by_cases c : i + 1 < b.n ∧ b.us (i + 1) = false
      · rw [if_pos c] at h2
        rw [show j = i + 1 by omega]; exact c.2
      · rw [if_neg c] at h2; omega
  · unfold fromM at h ⊢
    by_cases c : 0 < i ∧ b.us (i - 1) = false
    · rw [if_pos c] at h ⊢
      rcases hb.alt (i - 1 - 1) (by omega) with h2 | h2
      · exact h2
      · rw [show i - 1 - 1 + 1 = i - 1 by omega, c.2] at h2; cases h2
    · rw [if_neg c] at h ⊢
      cases h3 : b.us (i - 1)
      · exact absurd ⟨h, h3⟩ c
      · rfl
  · unfold toM at h ⊢
    by_cases c : i + 1 < b.n ∧ b.us (i + 1) = false
    · rw [if_pos c] at h ⊢
      rcases hb.alt (i + 1) (by omega) with h2 | h2
      · rw [c.2] at h2; cases h2
      · exact h2
    · rw [if_neg c] at h ⊢
      cases h3 : b.us (i + 1)
      · exact absurd ⟨h, h3⟩ c
      · rfl
theorem merge_ok (hb : b.Ok N) (ha : Around b i f t) : (b.merge f t).Ok N := by
  have h1 := ha.lo
  have h2 := ha.hi
  have hs := hb.two f (by omega)
  have hm := b.at_mono (show f + 1 ≤ t by omega)
  rw [b.at_succ] at hm
  refine ⟨fun j hj => ?_, ?_, fun j hj => ?_, hb.big⟩
  · have hj : j < b.n - (t - f) + 1 := hj
    show 2 ≤ (if j < f then b.sz j else if j = f then b.at t - b.at f else b.sz (j + (t - f) - 1))
    split
    · exact hb.two j (by omega)
    · split
      · omega
      · exact hb.two _ (by omega)
  · show (b.merge f t).at (b.n - (t - f) + 1) = N
    rw [show b.n - (t - f) + 1 = f + 1 + (b.n - t) by omega, merge_hi (by omega), show t + (b.n - t) = b.n by omega]
    exact hb.sum
  · have hj : j + 1 < b.n - (t - f) + 1 := hj
    show (if j < f then b.us j else if j = f then false else b.us (j + (t - f) - 1)) = true ∨ (if j + 1 < f then b.us (j + 1) else if j + 1 = f then false else b.us (j + 1 + (t - f) - 1)) = true
    by_cases e1 : j < f
    · rw [if_pos e1]
      by_cases e2 : j + 1 < f
      · rw [if_pos e2]; exact hb.alt j (by omega)
      · left
        have := ha.usL (by omega)
        rwa [show f - 1 = j by omega] at this
    · rw [if_neg e1, if_neg (show ¬ j + 1 < f by omega), if_neg (show ¬ j + 1 = f by omega)]
      by_cases e2 : j = f
      · right
        rw [show j + 1 + (t - f) - 1 = t by omega]
        exact ha.usR (by omega)
      · rw [if_neg e2]
        have := hb.alt (j + (t - f) - 1) (by omega)
        rwa [show j + (t - f) - 1 + 1 = j + 1 + (t - f) - 1 by omega] at this
/-- the words behind a giving back -/
def merW (b : Bs) (W : Nat → Int) (f t : Nat) : Nat → Int := appl (b.at f) (fun _ => (hdr (b.at t - b.at f) false : Nat)) W 1
theorem merW_at (W : Nat → Int) (x : Nat) : merW b W f t x = if x = b.at f then ((hdr (b.at t - b.at f) false : Nat) : Int) else W x := by
  unfold merW appl
  by_cases e : x = b.at f
  · rw [if_pos (by omega), if_pos e]
  · rw [if_neg (by omega), if_neg e]
theorem at_inj (hb : b.Ok N) {j1 j2 : Nat} (h1 : j1 < b.n) (h2 : j2 < b.n) (h : b.at j1 = b.at j2) : j1 = j2 := by
  rcases Nat.lt_trichotomy j1 j2 with c | c | c
  · have := b.at_mono (show j1 + 1 ≤ j2 by omega)
    have := hb.two j1 h1
    rw [b.at_succ] at *; omega
  · exact c
  · have := b.at_mono (show j2 + 1 ≤ j1 by omega)
    have := hb.two j2 h2
    rw [b.at_succ] at *; omega
theorem merge_enc (hb : b.Ok N) (ha : Around b i f t) {W : Nat → Int} (he : Enc W b) : Enc (merW b W f t) (b.merge f t) := by
  have h1 := ha.lo
  have h2 := ha.hi
  intro j hj
  have hj : j < b.n - (t - f) + 1 := hj
  rw [merW_at]
  show _ = ((hdr (if j < f then b.sz j else if j = f then b.at t - b.at f else b.sz (j + (t - f) - 1)) (if j < f then b.us j else if j = f then false else b.us (j + (t - f) - 1)) : Nat) : Int)
  by_cases e1 : j < f
  · rw [merge_lo (by omega), if_neg (fun h => by have := at_inj hb (by omega) (by omega) h; omega), if_pos e1, if_pos e1]
    exact he j (by omega)
  · rw [if_neg e1, if_neg e1]
    by_cases e2 : j = f
    · rw [if_pos e2, if_pos e2, e2, merge_lo (Nat.le_refl _), if_pos rfl]
    · obtain ⟨x, rfl⟩ : ∃ x, j = f + 1 + x := ⟨j - f - 1, by omega⟩
      rw [if_neg e2, if_neg e2, merge_hi (by omega), if_neg (fun h => by have := at_inj hb (by omega) (by omega) h; omega), he _ (by omega), show f + 1 + x + (t - f) - 1 = t + x by omega]
end
end Go.Proofs.YtphmfaddgpjndaaGreat

/- What an operation does to blocks, words and root; heap.Do as one. -/
namespace Go.Proofs.YtphmfaddgpjndaaGreat
open Go.ChangeShapes Go.WideShapes Go.RowKit Go.Maps

/-- an operation as numbers -/
structure OpN where
  kind : Int
  off : Int
  n : Int
  mask : Int
  k : Nat
  c : Nat → Int
/-- blocks, words and root of a heap of N words -/
structure St (N : Nat) (B : Bs) (W : Nat → Int) (r : Int) : Prop where
  hB : B.Ok N
  he : Enc W B
  hw : WOk N W
  hr : RootOk B r
theorem RootOk.wrap {B : Bs} {N : Nat} (hB : B.Ok N) {r : Int} (h : RootOk B r) : IntKind.i64.wrap r = r := by
  have := h.bound hB
  rw [IntKind.wrap_i64]; omega
/-- what an operation does, and tells -/
inductive Did (B : Bs) (W : Nat → Int) (r : Int) (op : OpN) : Int → Int → (Nat → Int) → Int → Nat → (Nat → Int) → Bs → Prop
  | allocArg (c : Nat → Int) : op.kind = 1 → needN op.n = 0 → Did B W r op 1 0 W r 0 c B
  | allocNone (c : Nat → Int) : op.kind = 1 → needN op.n ≠ 0 → (∀ j, j < B.n → ¬ fits B (needN op.n) j) → Did B W r op 4 0 W r 0 c B
  | allocOk (c : Nat → Int) (k : Nat) : op.kind = 1 → needN op.n ≠ 0 → k < B.n → fits B (needN op.n) k → (∀ j, j < B.n → fits B (needN op.n) j → B.sz k ≤ B.sz j) →
      Did B W r op 0 ((B.at k + 1) * 8 : Nat) (carW B W k (needN op.n)) r 0 c (B.carve k (takesN (B.sz k) (needN op.n)))
  | freeArg (c : Nat → Int) : op.kind = 2 → (∀ i, i < B.n → findP op.off (B.at i, B.sz i, B.us i) = false) → Did B W r op 1 0 W r 0 c B
  | freeRoot (c : Nat → Int) (i : Nat) : op.kind = 2 → i < B.n → findP op.off (B.at i, B.sz i, B.us i) = true → r = op.off → Did B W r op 5 0 W r 0 c B
  | freeOk (c : Nat → Int) (i : Nat) : op.kind = 2 → i < B.n → findP op.off (B.at i, B.sz i, B.us i) = true → r ≠ op.off → Did B W r op 0 0 (merW B W (fromM B i) (toM B i)) r 0 c (B.merge (fromM B i) (toM B i))
  | readArg (c : Nat → Int) : op.kind = 3 → holdsN B op.off op.n = false → Did B W r op 1 0 W r 0 c B
  | readOk : op.kind = 3 → holdsN B op.off op.n = true → Did B W r op 0 0 W r op.n.toNat (fun i => byteW W (op.off.toNat + i)) B
  | writeArg (c : Nat → Int) : op.kind = 4 → holdsN B op.off op.k = false → Did B W r op 1 0 W r 0 c B
  | writeOk (c : Nat → Int) : op.kind = 4 → holdsN B op.off op.k = true → Did B W r op 0 0 (wroteW W op.off.toNat op.k op.c) r 0 c B
  | rootArg (c : Nat → Int) : op.kind = 5 → op.off ≠ 0 → (∀ i, i < B.n → findP op.off (B.at i, B.sz i, B.us i) = false) → Did B W r op 1 0 W r 0 c B
  | rootOk (c : Nat → Int) : op.kind = 5 → RootOk B op.off → Did B W r op 0 0 W op.off 0 c B
  | get (c : Nat → Int) : op.kind = 6 → Did B W r op 0 r W r 0 c B
  | other (c : Nat → Int) : op.kind ≠ 1 ∧ op.kind ≠ 2 ∧ op.kind ≠ 3 ∧ op.kind ≠ 4 ∧ op.kind ≠ 5 ∧ op.kind ≠ 6 → Did B W r op 1 0 W r 0 c B
/-! ### all stays as it must be -/
theorem putB_ok (x : Int) (s : Nat) (c : Int) : 0 ≤ putB x s c ∧ putB x s c < 18446744073709551616 := by
  have h := wf_bits .or .u64 (bits .andNot .u64 x (IntKind.u64.wrap (255 * 2 ^ s))) (IntKind.u64.wrap (c * 2 ^ s))
  unfold putB
  generalize bits .or .u64 (bits .andNot .u64 x (IntKind.u64.wrap (255 * 2 ^ s))) (IntKind.u64.wrap (c * 2 ^ s)) = y at h ⊢
  simp [Lit.wf, IntKind.min, IntKind.max, IntKind.signed, IntKind.bits] at h
  omega
theorem wrote_ok {N : Nat} {W : Nat → Int} (h : WOk N W) (off : Nat) (c : Nat → Int) : ∀ n, WOk N (wrote W off c n)
  | 0 => h
  | n + 1 => fun q hq => by
    show 0 ≤ updF _ _ _ q ∧ updF _ _ _ q < _
    unfold updF
    split
    · exact putB_ok ..
    · exact wrote_ok h off c n q hq
theorem wroteW_eq (W : Nat → Int) (off n : Nat) (c : Nat → Int) (q : Nat) : wroteW W off n c q = wrote W off c n q := by
  unfold wroteW
  by_cases h0 : n = 0
  · subst h0; rw [if_pos rfl]; rfl
  · rw [if_neg h0]
    unfold appl
    by_cases h : off / 8 ≤ q ∧ q < off / 8 + lineN off n
    · rw [if_pos h]
      show wrote W off c n (off / 8 + (q - off / 8)) = _
      rw [show off / 8 + (q - off / 8) = q by omega]
    · rw [if_neg h, wrote_past]
      intro j hj e
      refine h ⟨by omega, ?_⟩
      unfold lineN
      rw [if_neg h0]
      omega
theorem wroteW_out {B : Bs} {N : Nat} (hB : B.Ok N) {off : Int} {n : Nat} (h : holdsN B off n = true) (W : Nat → Int) (c : Nat → Int) {q : Nat} (hq : ∀ i, i < B.n → B.us i = true → ¬ (B.at i < q ∧ q < B.at i + B.sz i)) : wroteW W off.toNat n c q = W q := by
  obtain ⟨_, i, hi, hu, h1, h2⟩ := (holdsN_iff hB).1 h
  rw [wroteW_eq, wrote_past]
  intro j hj e
  exact hq i hi hu (by omega)
theorem not_inside {B : Bs} {N : Nat} (hB : B.Ok N) {i j : Nat} (hi : i < B.n) (hj : j < B.n) : ¬ (B.at i < B.at j ∧ B.at j < B.at i + B.sz i) := by
  intro h
  have h1 : i < j := by
    rcases Nat.lt_or_ge i j with c | c
    · exact c
    · have := B.at_mono c; omega
  have := B.at_mono (show i + 1 ≤ j by omega)
  rw [B.at_succ] at this
  omega
theorem findP_mk {B : Bs} {N : Nat} (hB : B.Ok N) {i : Nat} (hi : i < B.n) (hu : B.us i = true) : findP ((B.at i + 1) * 8 : Nat) (B.at i, B.sz i, B.us i) = true := by
  have h2 := hB.lt hi
  have h3 := hB.big
  unfold findP offN
  simp only [hu, Bool.true_and, decide_eq_true_eq]
  rw [if_pos (by omega)]
/-- a used block stays where it is -/
theorem carve_keeps {B : Bs} {N k t : Nat} (hB : B.Ok N) (hk : k < B.n) (ht : t ≤ B.sz k) {i : Nat} (hi : i < B.n) (hik : i ≠ k) : ∃ j, j < (B.carve k t).n ∧ (B.carve k t).at j = B.at i ∧ (B.carve k t).sz j = B.sz i ∧ (B.carve k t).us j = B.us i := by
  by_cases e : t = B.sz k
  · refine ⟨i, ?_, carve_full_at e i, ?_, ?_⟩
    · rw [carve_n, if_pos e]; exact hi
    · unfold Bs.carve; rw [if_pos e]
    · unfold Bs.carve; rw [if_pos e]; show (if i = k then true else B.us i) = _; rw [if_neg hik]
  · rcases Nat.lt_or_ge i k with c | c
    · refine ⟨i, ?_, carve_lo (by omega), ?_, ?_⟩
      · rw [carve_n, if_neg e]; omega
      · unfold Bs.carve; rw [if_neg e]; show (if i < k then _ else _) = _; rw [if_pos c]
      · unfold Bs.carve; rw [if_neg e]; show (if i < k then _ else _) = _; rw [if_pos c]
    · obtain ⟨x, rfl⟩ : ∃ x, i = k + 1 + x := ⟨i - k - 1, by omega⟩
      refine ⟨k + 2 + x, ?_, carve_hi e ht x, ?_, ?_⟩
      · rw [carve_n, if_neg e]; omega
      · unfold Bs.carve; rw [if_neg e]; show (if _ then _ else if _ then _ else if _ then _ else B.sz (k + 2 + x - 1)) = _
        rw [if_neg (by omega), if_neg (by omega), if_neg (by omega)]; congr 1; omega
      · unfold Bs.carve; rw [if_neg e]; show (if _ then _ else if _ then _ else if _ then _ else B.us (k + 2 + x - 1)) = _
        rw [if_neg (by omega), if_neg (by omega), if_neg (by omega)]; congr 1; omega
theorem merge_keeps {B : Bs} {f t : Nat} (hft : f < t) (ht : t ≤ B.n) {i : Nat} (hi : i < B.n) (ho : i < f ∨ t ≤ i) : ∃ j, j < (B.merge f t).n ∧ (B.merge f t).at j = B.at i ∧ (B.merge f t).sz j = B.sz i ∧ (B.merge f t).us j = B.us i := by
  have hn : (B.merge f t).n = B.n - (t - f) + 1 := rfl
  rcases ho with c | c
  · refine ⟨i, by omega, merge_lo (by omega), ?_, ?_⟩
    · show (if i < f then _ else _) = _; rw [if_pos c]
    · show (if i < f then _ else _) = _; rw [if_pos c]
  · obtain ⟨x, rfl⟩ : ∃ x, i = t + x := ⟨i - t, by omega⟩
    refine ⟨f + 1 + x, by omega, merge_hi hft x, ?_, ?_⟩
    · show (if _ then _ else if _ then _ else B.sz (f + 1 + x + (t - f) - 1)) = _
      rw [if_neg (by omega), if_neg (by omega)]; congr 1; omega
    · show (if _ then _ else if _ then _ else B.us (f + 1 + x + (t - f) - 1)) = _
      rw [if_neg (by omega), if_neg (by omega)]; congr 1; omega
theorem Did.st {N : Nat} {B B' : Bs} {W W' : Nat → Int} {r r' : Int} {op : OpN} {err o : Int} {n : Nat} {c : Nat → Int} (h : St N B W r) (hd : Did B W r op err o W' r' n c B') : St N B' W' r' := by
  have hB := h.hB
  cases hd
  case allocOk k _ hn hk hf _ =>
    have hnt := needN_two _ hn
    have h2 : 2 ≤ needN op.n ∧ needN op.n ≤ B.sz k := ⟨hnt.1, hf.2⟩
    have ht := takes_two h2
    refine ⟨carve_ok hB hk hf.1 ⟨ht.1, by omega⟩, carve_enc hB hk h.he h2, fun q hq => ?_, ?_⟩
    · have hsz := hB.size hk
      unfold carW appl
      split
      · unfold carV hdr
        split
        · split <;> constructor <;> omega
        · split
          · split <;> constructor <;> omega
          · omega
      · exact h.hw q hq
    · rcases h.hr with h0 | ⟨i, hi, hp⟩
      · exact Or.inl h0
      · have hu := findP_bound hB hi hp
        obtain ⟨j, hj, e1, e2, e3⟩ := carve_keeps (t := takesN (B.sz k) (needN op.n)) hB hk ht.2.2.1 hi (fun e => by rw [e, hf.1] at hu; exact absurd hu.1 (by simp))
        exact Or.inr ⟨j, hj, by rw [e1, e2, e3]; exact hp⟩
  case freeOk i _ hi hp hne =>
    have ha := around_of hB hi
    have hle := hB.at_le ha.hi
    have hbig := hB.big
    refine ⟨merge_ok hB ha, merge_enc hB ha h.he, fun q hq => ?_, ?_⟩
    · rw [merW_at]
      split
      · unfold hdr
        simp
        omega
      · exact h.hw q hq
    · rcases h.hr with h0 | ⟨x, hx, hpx⟩
      · exact Or.inl h0
      · have hu := findP_bound hB hx hpx
        have hui := findP_bound hB hi hp
        obtain ⟨j, hj, e1, e2, e3⟩ := merge_keeps (f := fromM B i) (t := toM B i) (by have := ha.lo; omega) ha.hi hx (by
          rcases Nat.lt_or_ge x (fromM B i) with c | c
          · exact Or.inl c
          · rcases Nat.lt_or_ge x (toM B i) with c2 | c2
            · exfalso
              by_cases e : x = i
              · subst e; exact hne (hu.2.1.trans hui.2.1.symm)
              · rw [ha.free x c c2 e] at hu; exact absurd hu.1 (by simp)
            · exact Or.inr c2)
        exact Or.inr ⟨j, hj, by rw [e1, e2, e3]; exact hpx⟩
  case writeOk _ hh =>
    refine ⟨hB, fun i hi => ?_, fun q hq => by rw [wroteW_eq]; exact wrote_ok h.hw _ _ _ q hq, h.hr⟩
    rw [wroteW_out hB hh W op.c (fun j hj _ => not_inside hB hj hi)]
    exact h.he i hi
  case rootOk _ hr => exact ⟨hB, h.he, h.hw, hr⟩
  all_goals exact h
/-! ### heap.Do -/
section
variable {w : World} {b : HB} {p : Pl} {puts X Y : Nat} {m : MS} {now kept : Nat → Int} {B : Bs}
theorem sl_nil (w : World) (B : Nat) (c : Nat → Int) : SlOf w B (.slice none 0 0) 1 0 (fun i _ => .int .u8 (c i)) := Or.inl ⟨none, 0, rfl, rfl⟩
theorem do_any (h : HeapIn w b p puts m now kept X Y) (hX : X + 9 ≤ 1000000000000) (hY : Y + 200 ≤ 1000000000000) (hs : St (p.L * 8) B (hW m p.L) (m.reg 2)) (op : OpN) {B2 : Nat} {d : Value} (hd : SlOf w B2 d 1 op.k (fun i _ => .int .u8 (op.c i))) (hc : ∀ i, i < op.k → 0 ≤ op.c i ∧ op.c i < 256) :
    Calls Tryz.prog 43 #[.pointer (some ⟨b.HP, 0, none⟩), opV op.kind op.off op.n op.mask d] w fun e w' => ∃ (err o : Int) (v : Value) (W' : Nat → Int) (r' : Int) (n : Nat) (c : Nat → Int) (B' : Bs), e = .returned (ansV err o v) ∧
      Chg w w' b p now X Y W' r' ∧ SlOf w' w.heap.size v 1 n (fun i _ => .int .u8 (c i)) ∧ Did B (hW m p.L) (m.reg 2) op err o W' r' n c B' := by
  have hw := hs.hr.wrap hs.hB
  by_cases k1 : op.kind = 1
  · rw [k1]
    refine (do_alloc h hX hY hs.hB hs.he op.off op.n op.mask d).mono ?_
    rintro _ w' ⟨err, o, rfl, ⟨h1, rfl, rfl, hg⟩ | ⟨h1, rfl, rfl, h2, hg⟩ | ⟨h1, rfl, k, h2, h3, h4, rfl, hg⟩⟩
    · exact ⟨1, 0, _, _, _, 0, fun _ => 0, B, rfl, hg, sl_nil _ _ _, .allocArg _ k1 h1⟩
    · exact ⟨4, 0, _, _, _, 0, fun _ => 0, B, rfl, hg, sl_nil _ _ _, .allocNone _ k1 h1 h2⟩
    · exact ⟨0, _, _, _, _, 0, fun _ => 0, _, rfl, hg, sl_nil _ _ _, .allocOk _ k k1 h1 h2 h3 h4⟩
  by_cases k2 : op.kind = 2
  · rw [k2]
    refine (do_free h hX hY hs.hB hs.he hw op.off op.n op.mask d).mono ?_
    rintro _ w' ⟨err, rfl, ⟨h1, rfl, hg⟩ | ⟨i, h1, h2, h3, rfl, hg⟩ | ⟨i, h1, h2, h3, rfl, hg⟩⟩
    · exact ⟨1, 0, _, _, _, 0, fun _ => 0, B, rfl, hg, sl_nil _ _ _, .freeArg _ k2 h1⟩
    · exact ⟨5, 0, _, _, _, 0, fun _ => 0, B, rfl, hg, sl_nil _ _ _, .freeRoot _ i k2 h1 h2 h3⟩
    · exact ⟨0, 0, _, _, _, 0, fun _ => 0, _, rfl, hg, sl_nil _ _ _, .freeOk _ i k2 h1 h2 h3⟩
  by_cases k3 : op.kind = 3
  · rw [k3]
    refine (do_read (X := X) (Y := Y) h hs.hB hs.he hs.hw op.off op.n op.mask d).mono ?_
    rintro _ w' ⟨err, v, rfl, ⟨h1, rfl, rfl, hg⟩ | ⟨h1, rfl, h2, hg⟩⟩
    · exact ⟨1, 0, _, _, _, 0, fun _ => 0, B, rfl, hg, sl_nil _ _ _, .readArg _ k3 h1⟩
    · exact ⟨0, 0, _, _, _, _, _, B, rfl, hg, h2, .readOk k3 h1⟩
  by_cases k4 : op.kind = 4
  · rw [k4]
    refine (do_write h hX hY hs.hB hs.he hd hc op.off op.n op.mask).mono ?_
    rintro _ w' ⟨err, rfl, ⟨h1, rfl, hg⟩ | ⟨h1, rfl, hg⟩⟩
    · exact ⟨1, 0, _, _, _, 0, fun _ => 0, B, rfl, hg, sl_nil _ _ _, .writeArg _ k4 h1⟩
    · exact ⟨0, 0, _, _, _, 0, fun _ => 0, B, rfl, hg, sl_nil _ _ _, .writeOk _ k4 h1⟩
  by_cases k5 : op.kind = 5
  · rw [k5]
    refine (do_root (X := X) h hY hs.hB hs.he op.off op.n op.mask d).mono ?_
    rintro _ w' ⟨err, rfl, ⟨h1, h2, rfl, hg⟩ | ⟨h1, rfl, hg⟩⟩
    · exact ⟨1, 0, _, _, _, 0, fun _ => 0, B, rfl, hg, sl_nil _ _ _, .rootArg _ k5 h1 h2⟩
    · exact ⟨0, 0, _, _, _, 0, fun _ => 0, B, rfl, hg, sl_nil _ _ _, .rootOk _ k5 h1⟩
  by_cases k6 : op.kind = 6
  · rw [k6]
    refine (do_get (X := X) (Y := Y) h hw op.off op.n op.mask d).mono ?_
    rintro _ w' ⟨rfl, hg⟩
    exact ⟨0, _, _, _, _, 0, fun _ => 0, B, rfl, hg, sl_nil _ _ _, .get _ k6⟩
  · refine (do_other (X := X) (Y := Y) h op.kind op.off op.n op.mask d ⟨k1, k2, k3, k4, k5, k6⟩).mono ?_
    rintro _ w' ⟨rfl, hg⟩
    exact ⟨1, 0, _, _, _, 0, fun _ => 0, B, rfl, hg, sl_nil _ _ _, .other _ ⟨k1, k2, k3, k4, k5, k6⟩⟩
end
end Go.Proofs.YtphmfaddgpjndaaGreat

/- tower.does, tower.Do at an operation of the heap. -/
namespace Go.Proofs.YtphmfaddgpjndaaGreat
open Go.ChangeShapes Go.WideShapes Go.RowKit Go.Maps

theorem res32 (tmps : Array Value) (g : Nat) (a1 a2 a3 : Value) (w : World) (ht : tmps.getD 4 undef = .pointer (some ⟨g, 0, none⟩)) (hg : obj w g = some (.cells #[a1, a2, a3] 32 (0, 0))) :
    (results Tryz.f32 tmps).run Tryz.prog w = .ok (.agg #[a1, a2, a3]) w := by
  have c0 : cellAt (obj w g) 0 = some a1 := by rw [hg]; rfl
  have c1 : cellAt (obj w g) 1 = some a2 := by rw [hg]; rfl
  have c2 : cellAt (obj w g) 2 = some a3 := by rw [hg]; rfl
  have ht2 : tmps[4]?.getD undef = .pointer (some ⟨g, 0, none⟩) := by rw [← ht]; simp [Array.getD_eq_getD_getElem?]
  simp [results, Tryz.results32, go_sem, ht2, c0, c1, c2]
section
variable {w : World} {TW : Nat} {b : HB} {p : Pl} {puts X Y : Nat} {m : MS} {now kept : Nat → Int} {B : Bs} {cost : Int}
/-- what is told of an operation -/
def Told (w w' : World) (b : HB) (p : Pl) (m : MS) (now : Nat → Int) (X Y : Nat) (B : Bs) (op : OpN) (e : Ending) : Prop :=
  ∃ (err o : Int) (v : Value) (W' : Nat → Int) (r' : Int) (n : Nat) (c : Nat → Int) (B' : Bs), e = .returned (ansV err o v) ∧
      Chg w w' b p now X Y W' r' ∧ SlOf w' w.heap.size v 1 n (fun i _ => .int .u8 (c i)) ∧ Did B (hW m p.L) (m.reg 2) op err o W' r' n c B'
set_option maxRecDepth 100000 in
set_option maxHeartbeats 3200000 in
theorem does_any (ht : TwAt w TW p b.Mb (.pointer (some ⟨b.HP, 0, none⟩)) cost) (h : HeapIn w b p puts m now kept X Y) (hX : X + 9 ≤ 1000000000000) (hY : Y + 200 ≤ 1000000000000) (hs : St (p.L * 8) B (hW m p.L) (m.reg 2)) (op : OpN) (h7 : op.kind ≠ 7) (h8 : op.kind ≠ 8)
    {B2 : Nat} {d : Value} (hd : SlOf w B2 d 1 op.k (fun i _ => .int .u8 (op.c i))) (hc : ∀ i, i < op.k → 0 ≤ op.c i ∧ op.c i < 256) :
    Calls Tryz.prog 32 #[.pointer (some ⟨TW, 0, none⟩), opV op.kind op.off op.n op.mask d] w fun e w' => Told w w' b p m now X Y B op e := by
  have hT : obj w TW = some (.cells (twC p b.Mb (.pointer (some ⟨b.HP, 0, none⟩)) cost) 69 (0, 0)) := ht
  obtain ⟨aod, capd, rfl⟩ := hd.form
  generalize hdd : Value.slice aod op.k capd = d at hd ⊢
  have hlt := lt_of_obj hT
  have hb1 : Below w.heap.size w (w.alloc (.cells #[.int .i64 op.kind, .int .i64 op.off, .int .i64 op.n, .int .i64 op.mask, d] 35)) := (Below.refl _ _).alloc (Nat.le_refl _) _
  have hb2 := hb1.alloc hb1.size (.cells #[.int .i64 0, .int .i64 0, .slice none 0 0] 32)
  have HB2 := Lib.hid hb2
  have HBLK := Lib.hid h.lts
  have KD := Lib.hid (fun w' (hb : Below w.heap.size w w') => do_any (h.below hb) hX hY hs op (hd.below hb) hc)
  have HT2 := keepA (.cells #[.int .i64 0, .int .i64 0, .slice none 0 0] 32) (keepA (.cells #[.int .i64 op.kind, .int .i64 op.off, .int .i64 op.n, .int .i64 op.mask, d] 35) hT)
  have hq0 := keepA (.cells #[.int .i64 0, .int .i64 0, .slice none 0 0] 32) (newA w (.cells #[.int .i64 op.kind, .int .i64 op.off, .int .i64 op.n, .int .i64 op.mask, d] 35))
  have hq1 := newA (w.alloc (.cells #[.int .i64 op.kind, .int .i64 op.off, .int .i64 op.n, .int .i64 op.mask, d] 35)) (.cells #[.int .i64 0, .int .i64 0, .slice none 0 0] 32)
  have hsz : (w.alloc (.cells #[.int .i64 op.kind, .int .i64 op.off, .int .i64 op.n, .int .i64 op.mask, d] 35)).heap.size = w.heap.size + 1 := by simp
  rw [hsz] at hq1
  have k7 : (op.kind == 7) = false := by simp; exact h7
  have k8 : (op.kind == 8) = false := by simp; exact h8
  unfold twC at HT2
  unfold opV at KD ⊢
  clear ht h hs hd hc hb1 hb2 hT h7 h8 hX hY hsz
  go_enter Tryz.func32, Tryz.ntmps32
  subst hdd
  go_wp2_with fail
  refine wp_region_more_tail 5 (by kernel_rfl) (by kernel_rfl) (by kernel_rfl) ?_
  simp only [List.take_succ_cons, List.take_zero, List.drop_succ_cons, List.drop_zero]
  generalize (w.alloc (.cells #[.int .i64 op.kind, .int .i64 op.off, .int .i64 op.n, .int .i64 op.mask, .slice aod op.k capd] 35)).alloc (.cells #[.int .i64 0, .int .i64 0, .slice none 0 0] 32) = w0 at HB2 HT2 hq0 hq1 ⊢
  have hn1 : w.heap.size < w0.heap.size := lt_of_obj hq0
  have hn2 : w.heap.size + 1 < w0.heap.size := lt_of_obj hq1
  have HNN := Lib.hid (And.intro hn1 hn2)
  have HNB : Hid (∀ x ∈ [b.HP, b.Mb, b.Cb, b.TU, b.LN, b.LG, b.C, b.g1, b.g2], x ≠ w.heap.size + 1) := Lib.hid (fun x hx => by have := HBLK.out x hx; omega)
  have hlt2 := lt_of_obj HT2
  obtain ⟨g0, hg0⟩ : ∃ g0, w.heap.size = g0 := ⟨_, rfl⟩
  have HG0 := Lib.hid hg0
  rw [hg0] at hn1 hn2 hq0 hq1 hlt HNB HNN ⊢
  clear hg0
  repeat (go_big_quiet_step ((fail)))
  refine wpQuiet_nil ?_
  intro _ hw'
  obtain ⟨x, hw''⟩ := hw'
  subst hw''
  have KD2 := Lib.hid (KD.out _ (HB2.out.trans ((more_below w0 x).mono HB2.out.size)))
  have HB3 := Lib.hid (HB2.out.trans ((more_below w0 x).mono HB2.out.size))
  have HQ1 := Lib.hid (keep (more_below w0 x) hq1)
  have HSZ3 := Lib.hid (Nat.lt_of_lt_of_le hn2 (more_below w0 x).size)
  clear KD hq0 hq1 HT2 hn1 hn2 hlt2 HB2 hlt
  change wpList _ _ _ _ _ (more w0 x)
  generalize more w0 x = w3 at KD2 HB3 HQ1 HSZ3 ⊢
  go_wp2_with fail
  refine KD2.out.mono ?_
  rintro _ w4 ⟨err, o, v, W', r', n, c, B', rfl, hg, hsl, hdid⟩
  have hq4 := hg.kept.keep HQ1.out (by have := HNB.out; intro hx; exact this (g0 + 1) (by simp at hx ⊢; omega) rfl)
  have HCH := Lib.hid hg
  obtain ⟨aov, capv, rfl⟩ := hsl.form
  have HSL := Lib.hid hsl
  have HDID := Lib.hid hdid
  have hql := lt_of_obj hq4
  clear hg hsl hdid KD2
  unfold ansV
  go_wp2_with fail
  have k5 : Kept [g0 + 1] w4 (((w4.setCell ⟨g0 + 1, 0, none⟩ (.int .i64 err)).setCell ⟨g0 + 1, 1, none⟩ (.int .i64 o)).setCell ⟨g0 + 1, 2, none⟩ (.slice aov n capv)) :=
    (((Kept.refl [g0 + 1] w4).setCell (p := ⟨g0 + 1, 0, none⟩) _ (Or.inl (by simp))).setCell (p := ⟨g0 + 1, 1, none⟩) _ (Or.inl (by simp))).setCell (p := ⟨g0 + 1, 2, none⟩) _ (Or.inl (by simp))
  refine ⟨rfl, _, res32 _ (g0 + 1) (.int .i64 err) (.int .i64 o) (.slice aov n capv) _ rfl (by simp [obj_setCell_eq, hq4, setAt]), err, o, _, W', r', n, c, B', rfl, (HCH.out.after HB3.out).door (g := g0 + 1) (by have := HG0.out; omega) HNB.out k5, ?_, HDID.out⟩
  exact (HSL.out.kept k5 (fun x hx => by simp at hx; rw [hx]; exact HSZ3.out)).mono HB3.out.size
/-- a tower, and the heap on it -/
def Tw (w : World) (TW : Nat) (b : HB) (p : Pl) (now : Nat → Int) (B : Bs) (W : Nat → Int) (r : Int) (X Y : Nat) : Prop :=
  ∃ puts m kept cost, TwAt w TW p b.Mb (.pointer (some ⟨b.HP, 0, none⟩)) cost ∧ HeapIn w b p puts m now kept X Y ∧ TW ∉ b.list ∧ W = hW m p.L ∧ r = m.reg 2 ∧ St (p.L * 8) B W r
theorem St.congr {N : Nat} {B : Bs} {W W' : Nat → Int} {r : Int} (h : St N B W r) (e : ∀ t, t < N → W' t = W t) : St N B W' r :=
  ⟨h.hB, fun i hi => by rw [e _ (h.hB.lt hi)]; exact h.he i hi, fun i hi => by rw [e i hi]; exact h.hw i hi, h.hr⟩
theorem res9 (tmps : Array Value) (g : Nat) (a1 a2 a3 : Value) (w : World) (ht : tmps.getD 4 undef = .pointer (some ⟨g, 0, none⟩)) (hg : obj w g = some (.cells #[a1, a2, a3] 32 (0, 0))) :
    (results Tryz.f9 tmps).run Tryz.prog w = .ok (.agg #[a1, a2, a3]) w := by
  have c0 : cellAt (obj w g) 0 = some a1 := by rw [hg]; rfl
  have c1 : cellAt (obj w g) 1 = some a2 := by rw [hg]; rfl
  have c2 : cellAt (obj w g) 2 = some a3 := by rw [hg]; rfl
  have ht2 : tmps[4]?.getD undef = .pointer (some ⟨g, 0, none⟩) := by rw [← ht]; simp [Array.getD_eq_getD_getElem?]
  simp [results, Tryz.results9, go_sem, ht2, c0, c1, c2]
set_option maxRecDepth 100000 in
set_option maxHeartbeats 3200000 in
theorem tdo_any {W : Nat → Int} {r : Int} (h : Tw w TW b p now B W r X Y) (hX : X + 9 ≤ 1000000000000) (hY : Y + 200 ≤ 1000000000000) (op : OpN) (h7 : op.kind ≠ 7) (h8 : op.kind ≠ 8)
    {B2 : Nat} {d : Value} (hd : SlOf w B2 d 1 op.k (fun i _ => .int .u8 (op.c i))) (hc : ∀ i, i < op.k → 0 ≤ op.c i ∧ op.c i < 256) :
    Calls Tryz.prog 9 #[.pointer (some ⟨TW, 0, none⟩), opV op.kind op.off op.n op.mask d] w fun e w' => ∃ (err o : Int) (v : Value) (W' W2 : Nat → Int) (r' : Int) (n : Nat) (c : Nat → Int) (B' : Bs) (now' : Nat → Int), e = .returned (ansV err o v) ∧
      Tw w' TW b p now' B' W2 r' (X + 9) (Y + 200) ∧ (∀ t, t < p.L * 8 → W2 t = W' t) ∧ (∀ j, j < p.pages → now j ≤ now' j) ∧ SlOf w' w.heap.size v 1 n (fun i _ => .int .u8 (c i)) ∧ Did B W r op err o W' r' n c B' ∧ Kept (TW :: b.list) w w' := by
  obtain ⟨puts, m, kept, cost, ht, hh, hn, rfl, rfl, hs⟩ := h
  have hT : obj w TW = some (.cells (twC p b.Mb (.pointer (some ⟨b.HP, 0, none⟩)) cost) 69 (0, 0)) := ht
  obtain ⟨aod, capd, rfl⟩ := hd.form
  generalize hdd : Value.slice aod op.k capd = d at hd ⊢
  have hlt := lt_of_obj hT
  have HLT := Lib.hid hlt
  have hb1 : Below w.heap.size w (w.alloc (.cells #[.int .i64 op.kind, .int .i64 op.off, .int .i64 op.n, .int .i64 op.mask, d] 35)) := (Below.refl _ _).alloc (Nat.le_refl _) _
  have hb2 := hb1.alloc hb1.size (.cells #[.int .i64 0, .int .i64 0, .slice none 0 0] 32)
  have HB2 := Lib.hid hb2
  have HBLK := Lib.hid hh.lts
  have HH := Lib.hid hh
  have HN := Lib.hid hn
  have KD := does_any (keep hb2 hT) (hh.below hb2) hX hY hs op h7 h8 (hd.below hb2) hc
  have HS := Lib.hid hs
  have HT := Lib.hid hT
  have hT2 := keep hb2 hT
  have hq0 := keepA (.cells #[.int .i64 0, .int .i64 0, .slice none 0 0] 32) (newA w (.cells #[.int .i64 op.kind, .int .i64 op.off, .int .i64 op.n, .int .i64 op.mask, d] 35))
  have hq1 := newA (w.alloc (.cells #[.int .i64 op.kind, .int .i64 op.off, .int .i64 op.n, .int .i64 op.mask, d] 35)) (.cells #[.int .i64 0, .int .i64 0, .slice none 0 0] 32)
  have hsz : (w.alloc (.cells #[.int .i64 op.kind, .int .i64 op.off, .int .i64 op.n, .int .i64 op.mask, d] 35)).heap.size = w.heap.size + 1 := by simp
  have KW := Lib.hid (writes_any (hh.below hb2).hG.hT.hM)
  rw [hsz] at hq1
  unfold twC at hT2
  unfold opV at KD ⊢
  have KD := Lib.hid KD
  have HX := Lib.hid (And.intro hX hY)
  clear ht hh hs hd hc hb1 hb2 hT h7 h8 hX hY hsz hn
  go_enter Tryz.func9, Tryz.ntmps9
  subst hdd
  go_wp2_with fail
  have HNB : Hid (∀ x ∈ [b.HP, b.Mb, b.Cb, b.TU, b.LN, b.LG, b.C, b.g1, b.g2], x ≠ w.heap.size + 1) := Lib.hid (fun x hx => by have := HBLK.out x hx; omega)
  generalize (w.alloc (.cells #[.int .i64 op.kind, .int .i64 op.off, .int .i64 op.n, .int .i64 op.mask, .slice aod op.k capd] 35)).alloc (.cells #[.int .i64 0, .int .i64 0, .slice none 0 0] 32) = w0 at HB2 hT2 hq0 hq1 KD KW ⊢
  have hn1 : w.heap.size < w0.heap.size := lt_of_obj hq0
  have hn2 : w.heap.size + 1 < w0.heap.size := lt_of_obj hq1
  have HNN := Lib.hid (And.intro hn1 hn2)
  obtain ⟨g0, hg0⟩ : ∃ g0, w.heap.size = g0 := ⟨_, rfl⟩
  have HG0 := Lib.hid hg0
  rw [hg0] at hn1 hn2 hq0 hq1 HNB HNN ⊢
  have hlt2 := lt_of_obj hT2
  have HQ1 := Lib.hid hq1
  clear hg0 hlt
  refine KW.out.mono ?_
  rintro _ _ ⟨rfl, rfl⟩
  go_wp2_with fail
  refine KD.out.mono ?_
  rintro _ w4 ⟨err, o, v, W', r', n, c, B', rfl, hg, hsl, hdid⟩
  have HNL : Hid (∀ x ∈ [b.Mb, b.Cb, b.TU, b.g1, b.g2], x ≠ TW) := Lib.hid (fun x hx e => HN.out (by unfold HB.list; subst e; simp at hx ⊢; omega))
  have hT4 := hg.kept.keep hT2 (fun hx => HNL.out TW hx rfl)
  have hq4 := hg.kept.keep hq1 (by have := HNB.out; intro hx; exact this (g0 + 1) (by simp at hx ⊢; omega) rfl)
  have hgk := hg.kept
  obtain ⟨puts', m', now', kept', hh', hW', hr', hle, _⟩ := hg
  obtain ⟨aov, capv, rfl⟩ := hsl.form
  have HSL := Lib.hid hsl
  have HDID := Lib.hid hdid
  have HH' := Lib.hid hh'
  have HRES := Lib.hid (And.intro hW' (And.intro hr' hle))
  have HK4 := Lib.hid hgk
  have hS4 := hgk.size
  have hql := lt_of_obj hq4
  have htl := lt_of_obj hT4
  have HTL := Lib.hid htl
  have HSZ04 := Lib.hid hS4
  have hne1 : TW ≠ g0 + 1 := by have := HLT.out; have := HG0.out; omega
  clear hsl hdid KD hh' hW' hr' hle hgk hT2 hlt2 hq0 hq1 KW
  unfold ansV
  go_wp2_with fail
  have KW5 := Lib.hid (writes_any (HH'.out.hG.hT.hM.alloc (.cells #[.int .i64 err, .int .i64 o, .slice aov n capv] 32)))
  have hT5 := keepA (.cells #[.int .i64 err, .int .i64 o, .slice aov n capv] 32) hT4
  have hq5 := keepA (.cells #[.int .i64 err, .int .i64 o, .slice aov n capv] 32) hq4
  have hr5 := newA w4 (.cells #[.int .i64 err, .int .i64 o, .slice aov n capv] 32)
  have HH5 := Lib.hid (HH'.out.below ((Below.refl w4.heap.size w4).alloc (Nat.le_refl _) (.cells #[.int .i64 err, .int .i64 o, .slice aov n capv] 32)))
  have HK5 := Lib.hid (HK4.out.alloc (.cells #[.int .i64 err, .int .i64 o, .slice aov n capv] 32))
  have HSL5 := Lib.hid (HSL.out.below ((Below.refl w4.heap.size w4).alloc (Nat.le_refl _) (.cells #[.int .i64 err, .int .i64 o, .slice aov n capv] 32)))
  generalize w4.alloc (.cells #[.int .i64 err, .int .i64 o, .slice aov n capv] 32) = w5 at KW5 hT5 hq5 hr5 HH5 HK5 HSL5 ⊢
  have htl5 := lt_of_obj hT5
  have hql5 := lt_of_obj hq5
  have hne2 : TW ≠ w4.heap.size := by omega
  have hne3 : g0 + 1 ≠ w4.heap.size := by omega
  generalize w4.heap.size = g4 at hr5 hne2 hne3 ⊢
  have hrl5 := lt_of_obj hr5
  have hne2' := hne2.symm
  have hne1' := hne1.symm
  have hne3' := hne3.symm
  have HNE := Lib.hid (And.intro hne1 (And.intro hne2 hne3))
  clear hT4 hq4 hql htl HH' HK4 HSL
  refine KW5.out.mono ?_
  rintro _ _ ⟨rfl, rfl⟩
  go_wp2_with fail
  generalize wrap64 (m'.writes - m.writes) = cost'
  have k6 : Kept [TW, g0 + 1] w5 ((((w5.setCell ⟨TW, 6, none⟩ (.int .i64 cost')).setCell ⟨g0 + 1, 0, none⟩ (.int .i64 err)).setCell ⟨g0 + 1, 1, none⟩ (.int .i64 o)).setCell ⟨g0 + 1, 2, none⟩ (.slice aov n capv)) :=
    ((((Kept.refl [TW, g0 + 1] w5).setCell (p := ⟨TW, 6, none⟩) _ (Or.inl (by simp))).setCell (p := ⟨g0 + 1, 0, none⟩) _ (Or.inl (by simp))).setCell (p := ⟨g0 + 1, 1, none⟩) _ (Or.inl (by simp))).setCell (p := ⟨g0 + 1, 2, none⟩) _ (Or.inl (by simp))
  have htt : TwAt ((((w5.setCell ⟨TW, 6, none⟩ (.int .i64 cost')).setCell ⟨g0 + 1, 0, none⟩ (.int .i64 err)).setCell ⟨g0 + 1, 1, none⟩ (.int .i64 o)).setCell ⟨g0 + 1, 2, none⟩ (.slice aov n capv)) TW p b.Mb (.pointer (some ⟨b.HP, 0, none⟩)) cost' := by
    unfold TwAt
    rw [obj_setCell_ne _ _ _ TW hne1, obj_setCell_ne _ _ _ TW hne1, obj_setCell_ne _ _ _ TW hne1, obj_setCell_eq, hT5]
    rfl
  refine ⟨rfl, _, res9 _ (g0 + 1) (.int .i64 err) (.int .i64 o) (.slice aov n capv) _ rfl (by simp [obj_setCell_eq, obj_setCell_ne, hne1', hq5, setAt]), err, o, _, W', hW m' p.L, r', n, c, B', now', rfl, ⟨puts', m', kept', cost', htt, HH5.out.kept k6 (fun x hx => ?_), HN.out, rfl, HRES.out.2.1.symm, ?_⟩, HRES.out.1, HRES.out.2.2, ?_, HDID.out, ?_⟩
  · have h1 := HNB.out x hx
    have h2 : x ≠ TW := fun e => HN.out (by unfold HB.list; rw [← e]; exact hx)
    simp
    exact ⟨h2, h1⟩
  · exact (Did.st HS.out HDID.out).congr HRES.out.1
  · refine (HSL5.out.kept k6 (fun x hx => ?_)).mono ?_
    · have h1 := HNN.out
      have h2 := HLT.out
      have h3 := HG0.out
      simp at hx
      omega
    · exact HB2.out.size
  · have k0 : Kept (TW :: b.list) w w5 := (Kept.of_below HB2.out).next HK5.out (fun x hx => Or.inl (by unfold HB.list; simp at hx ⊢; omega))
    refine k0.next k6 (fun x hx => ?_)
    have h3 := HG0.out
    simp at hx
    rcases hx with rfl | rfl
    · left; simp
    · right; omega
end
end Go.Proofs.YtphmfaddgpjndaaGreat

/- tower.New. -/
namespace Go.Proofs.YtphmfaddgpjndaaGreat
open Go.ChangeShapes Go.WideShapes Go.RowKit Go.Maps

/-- one free block -/
def B0 (N : Nat) : Bs := ⟨1, fun _ => N, fun _ => false⟩
theorem B0_ok (L : Nat) (h : 1 ≤ L ∧ L ≤ 64) : (B0 (L * 8)).Ok (L * 8) := by
  refine ⟨fun i _ => ?_, ?_, fun i hi => ?_, ⟨by omega, by omega, by omega⟩⟩
  · show 2 ≤ L * 8; omega
  · show 0 + L * 8 = L * 8; omega
  · have : i + 1 < 1 := hi; omega
theorem Formed.words {m : MS} {p : Pl} (h : Formed m p) (t : Nat) (ht : t < p.L * 8) : hW m p.L t = firstW (p.L * 8) t := by
  unfold hW
  rw [h.ct (t / 8) (by omega), lineW_wd _ _ _ (by omega)]
  congr 1
  omega
theorem firstW_st (L : Nat) (hL : 1 ≤ L ∧ L ≤ 64) : St (L * 8) (B0 (L * 8)) (firstW (L * 8)) 0 := by
  refine ⟨B0_ok L hL, fun i hi => ?_, fun i hi => ?_, Or.inl rfl⟩
  · have : i < 1 := hi
    obtain rfl : i = 0 := by omega
    rfl
  · unfold firstW hdr
    split
    · simp; omega
    · omega
theorem Formed.can {m : MS} {p : Pl} (h : Formed m p) (hp : p.Ok) : CanOpen m p (B0 (p.L * 8)) 0 300 := by
  have hs := (firstW_st p.L hp.hl).congr (fun t ht => h.words t ht)
  exact ⟨hp, h.gd, h.cut, h.regs 1 (by decide), hs.hB, hs.he, Or.inl (h.regs 2 (by decide)), fun j _ => by rw [h.regs _ (by omega)]; exact ⟨Int.le_refl _, Int.le_refl _⟩, by decide, h.wr⟩
section
variable {w : World} {p : Pl}
set_option maxRecDepth 100000 in
set_option maxHeartbeats 6400000 in
theorem tnew_any (hp : p.Ok) : Calls Tryz.prog 8 #[p.v, .slice none 0 0] w fun e w' => ∃ (TW : Nat) (b : HB) (W : Nat → Int), e = .returned (.tuple #[.pointer (some ⟨TW, 0, none⟩), .int .i64 0]) ∧
    Tw w' TW b p (fun _ => 0) (B0 (p.L * 8)) W 0 0 300 ∧ (∀ t, t < p.L * 8 → W t = firstW (p.L * 8) t) ∧ (∀ x ∈ TW :: b.list, w.heap.size ≤ x) ∧ Below w.heap.size w w' := by
  have KP := fun w => pmay_any hp w
  have KD := fun w => device_any hp w
  have hdv : 1 ≤ 16 + p.L + 1 + p.S ∧ 16 + p.L + 1 + p.S ≤ 200 := by have := hp.hl; have := hp.hs; omega
  unfold Pl.v at KP KD ⊢
  have KP := Lib.hid KP
  have KD := Lib.hid KD
  have HP := Lib.hid hp
  have HDV := Lib.hid hdv
  have hq := newA w (.cells #[.int .i64 p.L, .int .i64 p.S, .int .i64 p.P, .int .i64 p.B] 23)
  have HB0 := Lib.hid ((Below.refl w.heap.size w).alloc (Nat.le_refl _) (.cells #[.int .i64 p.L, .int .i64 p.S, .int .i64 p.P, .int .i64 p.B] 23))
  clear hp hdv
  go_enter Tryz.func8, Tryz.ntmps8
  go_wp2_with fail
  generalize w.alloc (.cells #[.int .i64 p.L, .int .i64 p.S, .int .i64 p.P, .int .i64 p.B] 23) = w0 at HB0 hq ⊢
  obtain ⟨bb, hbb⟩ : ∃ x, w.heap.size = x := ⟨_, rfl⟩
  have HBB := Lib.hid hbb
  rw [hbb] at hq ⊢
  have hql := lt_of_obj hq
  clear hbb
  refine (KP.out _).mono ?_
  rintro _ w1 ⟨rfl, hb⟩
  have hq1 := keep hb hq
  have HB1 := Lib.hid (HB0.out.trans (hb.mono HB0.out.size))
  clear hb hq hql KP HB0
  have hql1 := lt_of_obj hq1
  have HQL1 := Lib.hid hql1
  have HQ1 := Lib.hid hq1
  obtain ⟨c0, c1, c2, c3⟩ : cellAt (obj w1 bb) 0 = some (.int .i64 p.L) ∧ cellAt (obj w1 bb) 1 = some (.int .i64 p.S) ∧ cellAt (obj w1 bb) 2 = some (.int .i64 p.P) ∧ cellAt (obj w1 bb) 3 = some (.int .i64 p.B) := by rw [hq1]; exact ⟨rfl, rfl, rfl, rfl⟩
  have HC0 := Lib.hid (And.intro c0 (And.intro c1 (And.intro c2 c3)))
  clear hq1
  go_wp2_with fail
  go_region_held3 (fun w' => cellAt (obj w' bb) 0 = some (.int .i64 p.L) ∧ cellAt (obj w' bb) 1 = some (.int .i64 p.S) ∧ cellAt (obj w' bb) 2 = some (.int .i64 p.P) ∧ cellAt (obj w' bb) 3 = some (.int .i64 p.B))
    (first
      | exact HC0.out
      | (rw [obj_below hbn (Nat.lt_of_lt_of_le HQL1.out hbd.size), obj_below hbd HQL1.out]; exact HC0.out)
      | (rw [obj_below hbd HQL1.out]; exact HC0.out)
      | (rw [keepA _ (keep hbn (keep hbd HQ1.out))]; exact ⟨rfl, rfl, rfl, rfl⟩))
    (first
      | (go_at_call 28; refine (KD.out _).mono ?_; rintro _ w2 ⟨rfl, hbd⟩)
      | (go_at_call 27; refine (mnew_any _ _ HDV.out).mono ?_; rintro _ w3 ⟨Mb, Cb, rfl, hm, hMb, hCb, hbn⟩))
  have hB3 : Below w1.heap.size w1 w3 := by
    have h1 : Below w1.heap.size w1 w2 := ⟨hbd.os, hbd.tape, hbd.output, hbd.size, hbd.block⟩
    have h2 : Below w2.heap.size w2 w3 := ⟨hbn.os, hbn.tape, hbn.output, hbn.size, hbn.block⟩
    exact h1.trans (h2.mono h1.size)
  have HMC : Hid (w1.heap.size ≤ Mb ∧ w1.heap.size ≤ Cb) := Lib.hid ⟨Nat.le_trans hbd.size hMb, Nat.le_trans hbd.size hCb⟩
  have HML := Lib.hid (And.intro hm.hM.lt hm.hL.lt)
  have HM := Lib.hid (hm.alloc (.cells #[.int .i64 p.L, .int .i64 p.S, .int .i64 p.P, .int .i64 p.B, .pointer (some ⟨Mb, 0, none⟩), .pointer none, .int .i64 0] 69))
  have HB4 := Lib.hid ((HB1.out.trans (hB3.mono HB1.out.size)).alloc (HB1.out.trans (hB3.mono HB1.out.size)).size (.cells #[.int .i64 p.L, .int .i64 p.S, .int .i64 p.P, .int .i64 p.B, .pointer (some ⟨Mb, 0, none⟩), .pointer none, .int .i64 0] 69))
  have hq4 := keepA (.cells #[.int .i64 p.L, .int .i64 p.S, .int .i64 p.P, .int .i64 p.B, .pointer (some ⟨Mb, 0, none⟩), .pointer none, .int .i64 0] 69) (keep hB3 HQ1.out)
  have ht4 := newA w3 (.cells #[.int .i64 p.L, .int .i64 p.S, .int .i64 p.P, .int .i64 p.B, .pointer (some ⟨Mb, 0, none⟩), .pointer none, .int .i64 0] 69)
  have HS3 := Lib.hid hB3.size
  clear hm hMb hCb hbd hbn hB3 c0 c1 c2 c3
  generalize w3.alloc (.cells #[.int .i64 p.L, .int .i64 p.S, .int .i64 p.P, .int .i64 p.B, .pointer (some ⟨Mb, 0, none⟩), .pointer none, .int .i64 0] 69) = w4 at HM HB4 hq4 ht4 ⊢
  obtain ⟨TW, htw⟩ : ∃ x, w3.heap.size = x := ⟨_, rfl⟩
  rw [htw] at ht4 HML HS3 ⊢
  have hql4 := lt_of_obj hq4
  have htl4 := lt_of_obj ht4
  have HT4 := Lib.hid ht4
  have HQ4 := Lib.hid hq4
  have KF := fun w' (hb : Below w4.heap.size w4 w') => format_any (HM.out.below hb) HP.out
  unfold Pl.v at KF
  have KF := Lib.hid KF
  clear htw hql1
  go_wp2_with fail
  refine wp_region_more_tail 5 (by kernel_rfl) (by kernel_rfl) (by kernel_rfl) ?_
  simp only [List.take_succ_cons, List.take_zero, List.drop_succ_cons, List.drop_zero]
  repeat (go_big_quiet_step ((fail)))
  refine wpQuiet_nil ?_
  intro _ hw'
  obtain ⟨x, hw''⟩ := hw'
  subst hw''
  have KF5 := Lib.hid (KF.out _ (more_below w4 x))
  have HB5 := Lib.hid (HB4.out.trans ((more_below w4 x).mono HB4.out.size))
  have HT5 := Lib.hid (keep (more_below w4 x) HT4.out)
  have HML5 := Lib.hid (lt_of_obj HT5.out)
  clear KF HB4 HT4 HQ4 hq4 ht4 hql4 htl4 HM
  change wpList _ _ _ _ _ (more w4 x)
  generalize more w4 x = w5 at KF5 HB5 HT5 HML5 ⊢
  go_wp2_with fail
  refine KF5.out.mono ?_
  rintro _ w6 ⟨m, rfl, hm, hfm, hk⟩
  have HM6 := Lib.hid hm
  have HF := Lib.hid hfm
  have HK6 := Lib.hid hk
  have ht6 := hk.keep HT5.out (by have := HML.out; have := HMC.out; simp; omega)
  have KO := Lib.hid (topen_any (TW := TW) (hv := .pointer none) (cost := 0) ht6 hm (hfm.can HP.out) (by have := HML.out; omega))
  clear hm hfm hk KF5 ht6
  go_wp2_with fail
  refine KO.out.mono ?_
  rintro _ w7 ⟨b, rfl, h1, h2, hh, ht, hn, hfr, hk⟩
  have HFR := Lib.hid hfr
  have HH := Lib.hid hh
  have HT7 := Lib.hid ht
  have HBX := Lib.hid (And.intro h1 (And.intro h2 hn))
  have HK7 := Lib.hid hk
  clear hh ht h1 h2 hn hk hfr KO
  go_wp2_with fail
  go_ret2
  have hz : (fun j => m.reg (19 + j)) = fun _ => (0 : Int) := funext fun j => HF.out.regs _ (by omega)
  have hfr := HFR.out
  have hmc := HMC.out
  have hml := HML.out
  have hs3 := HS3.out
  have hs1 := HB1.out.size
  have hs5 := HB5.out.size
  have hs6 := HK6.out.size
  have hbx := HBX.out
  have h56 : ∀ x ∈ [Mb, Cb], w.heap.size ≤ x := by intro x hx; simp at hx; omega
  refine ⟨TW, b, hW m p.L, rfl, ⟨0, m, _, 0, by rw [hbx.1]; exact HT7.out, by have := HH.out; rw [hz] at this; exact this, hbx.2.2, rfl, (HF.out.regs 2 (by decide)).symm, (firstW_st p.L HP.out.hl).congr fun t ht => HF.out.words t ht⟩, fun t ht => HF.out.words t ht, fun x hx => ?_, ?_⟩
  · unfold HB.list at hx
    simp at hx hfr
    rw [hbx.1, hbx.2.1] at hx
    omega
  · have k : Kept [TW, Mb, Cb] w w7 := ((Kept.of_below HB5.out).next HK6.out (fun x hx => Or.inl (by simp at hx ⊢; omega))).next HK7.out (fun x hx => Or.inl (by simp at hx ⊢; omega))
    refine k.below (Nat.le_refl _) fun x hx => ?_
    simp at hx
    omega
end
end Go.Proofs.YtphmfaddgpjndaaGreat

/- heap.commit where the power goes at its first write. (Printed by wip/d/genZV.py.) -/
namespace Go.Proofs.YtphmfaddgpjndaaGreat
open Go.ChangeShapes Go.WideShapes Go.RowKit Go.Maps

/-- a heap whose power goes at the next write -/
structure HeapC (w : World) (b : HB) (p : Pl) (puts : Nat) (m : MS) (now kept : Nat → Int) : Prop where
  hp : p.Ok
  hH : HpAt w b.HP b.Mb b.TU b.LG p (.pointer (some ⟨b.C, 0, none⟩)) false
  hG : LogIn w b.LG b.TU b.LN b.Mb b.Cb (16 + p.L) p.S p.P puts m
  gd : Good m (16 + p.L) p.S
  cut : m.cut = 0
  mask : m.mask = 0
  r1 : m.reg 1 = 0
  ap : ∀ x ∈ [b.HP, b.C, b.g1, b.g2], x ∉ [b.Mb, b.Cb, b.TU]
  wr : m.writes + 1 ≤ 1000000000000
section
variable {w : World} {b : HB} {p : Pl} {puts : Nat} {m : MS} {now kept : Nat → Int}
set_option maxRecDepth 100000 in
set_option maxHeartbeats 3200000 in
theorem hcommit_cut {B B2 k a0 : Nat} {v vl : Value} {a : Nat → Nat} {V : Nat → Int} (h : HeapC w b p puts m now kept)
    (hs : SlOf w B v 1 (p.L * 8) (wordF (hW m p.L))) (hl : RowSl w B2 vl 2 k (edF a V)) (ha : ∀ j, j < k → a j = a0 + j) (hk : 1 ≤ k ∧ k ≤ 58) (hb : a0 + k ≤ p.L * 8) :
    Calls Tryz.prog 111 #[.pointer (some ⟨b.HP, 0, none⟩), v, vl] w fun e w' => ∃ m', e = died 2 ∧ MemAt w' b.Mb b.Cb m' ∧ Cutted m m' ∧ Kept [b.Mb, b.Cb, b.TU, b.HP] w w' := by
  obtain ⟨i1, hi1, hx0, hx1, hx2⟩ := info_parts' info133'
  have hp := h.hp
  have hL := hp.hl
  have hH := h.hH
  have H0 := Lib.hid h
  have KA := Lib.hid (apply_any hs hl ha hk.1 hb (by omega))
  have KL := Lib.hid (fun w1 (hb1 : Below w.heap.size w w1) => lines_any (hl.below hb1) ha hk.1 (by omega))
  have KH := Lib.hid (fun i (hi : i < p.L) w => home_any hp i hi w)
  unfold Pl.v at KH
  have HH := Lib.hid hH
  obtain ⟨ao, cap, rfl⟩ := hs.form
  obtain ⟨aol, capl, rfl⟩ := hl.form
  have HX := Lib.hid (And.intro hL (And.intro hk hb))
  clear hH hp h hs hl ha hk hb hL
  go_enter Tryz.func111, Tryz.ntmps111
  go_wp2_with fail
  refine KA.out.mono ?_
  rintro _ w1 ⟨v', rfl, hr, hb1⟩
  have KL1 := Lib.hid (KL.out w1 hb1)
  have HR := Lib.hid hr
  have HB1 := Lib.hid hb1
  clear hr hb1 KA
  go_wp2_with fail
  refine KL1.out.mono ?_
  rintro _ w2 ⟨v2, rfl, hr2, hb2⟩
  have HR2 := Lib.hid hr2
  have HB2 := Lib.hid (HB1.out.trans (hb2.mono HB1.out.size))
  have HR1 := Lib.hid (HR.out.below hb2)
  obtain ⟨ao2, cap2', rfl⟩ := hr2.form
  obtain ⟨ao1, cap1', rfl⟩ := HR.out.form
  clear hr2 hb2 KL1 HR
  go_wp2_with fail
  have hsz := lt_of_obj HH.out
  obtain ⟨q0, hq0⟩ : ∃ q0, a0 / 8 = q0 := ⟨_, rfl⟩
  obtain ⟨K, hK⟩ : ∃ K, lineN a0 k = K := ⟨_, rfl⟩
  rw [hK] at HR2 ⊢
  rw [hq0] at HR2
  have HQK : Hid (1 ≤ K ∧ K ≤ 9 ∧ q0 + K ≤ p.L) := Lib.hid (by have := HX.out; rw [← hK, ← hq0]; unfold lineN; rw [if_neg (by omega)]; omega)
  go_loopw [21, 6] (fun ix s wr => ∃ i : Nat, i ≤ K ∧ ix = .int .i64 i ∧ wr.ownsRow w2.heap.size 133 9 s i (flatF 9 (homeF (fun i => (16 + (q0 + i) : Nat)) (fun i => lineW (appl a0 V (hW m p.L) k) (q0 + i))) i) ∧ (i = 0 → s = .slice none 0 0) ∧ Below w2.heap.size w2 wr) (fun ix _ _ => K - (intOf ix).toNat)
  case atStart => exact ⟨0, Nat.zero_le _, rfl, World.ownsRow_nil _ _ _ _, fun _ => rfl, Below.refl _ _⟩
  case round =>
    obtain ⟨i, hi, rfl, ho, hz, hbr⟩ := hrel
    have HO := Lib.hid ho
    have HZ := Lib.hid hz
    have HBR := Lib.hid hbr
    by_cases hlt : i < K
    · have hltz : (i : Int) < (K : Int) := by omega
      have i0' : (0 : Int) ≤ (i : Int) := Int.natCast_nonneg i
      have hqk := HQK.out
      have hxx := HX.out
      have wi : IntKind.i64.wrap ((i : Int) + 1) = (i : Int) + 1 := by rw [IntKind.wrap_i64]; omega
      obtain ⟨g, off, c2, e, _, _, _, hg, _, hcl⟩ := HR2.out.cells (by omega)
      obtain ⟨rfl, rfl⟩ : ao2 = some ⟨g, off, none⟩ ∧ cap2' = c2 := by simpa using e
      have hc := hcl i hlt 0 (by decide)
      rw [Nat.mul_one, Nat.add_zero, ← obj_below hbr hg] at hc
      replace hc : cellAt (obj wr g) (off + i) = some (.int .i64 ((q0 + i : Nat) : Int)) := hc
      have hHr : obj wr b.HP = some (.cells (hpC b.Mb b.TU b.LG p (.pointer (some ⟨b.C, 0, none⟩)) false) 89 (0, 0)) := keep hbr (keep HB2.out HH.out)
      unfold hpC at hHr
      have KHi := Lib.hid (KH.out (q0 + i) (by omega))
      have KN := Lib.hid (fun w3 (hb3 : Below wr.heap.size wr w3) => hline_any ((HR1.out.below hbr).below hb3).sl (q0 + i) (by omega) (by omega))
      have hl8 := lineW_len (appl a0 V (hW m p.L) k) (q0 + i)
      have hnw := home_news (fun i => ((16 + (q0 + i) : Nat) : Int)) (fun i => lineW (appl a0 V (hW m p.L) k) (q0 + i)) i hl8
      generalize lineW (appl a0 V (hW m p.L) k) (q0 + i) = l at KN hl8 hnw
      obtain ⟨y, hy⟩ : ∃ y, q0 + i = y := ⟨_, rfl⟩
      rw [hy] at hc KHi KN hnw
      rw [show ((16 + y : Nat) : Int) = 16 + (y : Int) by omega] at hnw
      have HNW := Lib.hid hnw
      have HI := Lib.hid hlt
      clear hnw
      have hfold := home_fold (16 + (y : Int)) l hl8
      have hfold2 := home_fold2 (16 + (y : Int)) l hl8
      clear hi hlt ho hz hbr hqk hxx e hcl
      go_wp2_with fail
      refine (KHi.out _).mono ?_
      rintro _ w3 ⟨rfl, hb3⟩
      have KN3 := Lib.hid (KN.out w3 hb3)
      go_wp2_with fail
      refine KN3.out.mono ?_
      rintro _ w4 ⟨rfl, hb4⟩
      have hb34 : Below wr.heap.size wr w4 := hb3.trans (hb4.mono hb3.size)
      have HO4 := Lib.hid (own_below HO.out hb34)
      have HB4 := Lib.hid (HBR.out.trans (hb34.mono HBR.out.size))
      have hone : ∀ u ∈ (homeC (16 + (y : Int)) l).toList, u.oneCell' = true := by
        intro u hu
        have := homeC_flat (16 + (y : Int)) l
        unfold flat at this
        rw [List.all_eq_true] at this
        exact this u hu
      have HONE := Lib.hid hone
      have HLEN : Hid ((homeC (16 + (y : Int)) l).toList.length = 1 * 9) := Lib.hid (by rw [Array.length_toList, homeC_size, hl8])
      have HNEW := Lib.hid (newA w4 (.cells (homeC (16 + (y : Int)) l) 133))
      clear hone hb34 hb3 hb4
      go_wp2_with (at_builtin; refine wpList_append_lies _ rfl (.tmp 25) (.tmp 36) 128 rfl w2.heap.size 133 i1 _ 9 72 Tryz.underlying128 hi1 hx0 hx1 hx2 rfl (by decide) _ i _ rfl (HO4.out.alloc _) ⟨w4.heap.size, 0, none⟩ 1 1 (homeC (16 + (y : Int)) l).toList rfl HLEN.out (World.news_of_block (cs := homeC (16 + (y : Int)) l) (t := 133) (fr := (0, 0)) HNEW.out) HONE.out (by decide) (by have := HQK.out; unfold maxLen; omega) (by have := HQK.out; omega) (by have := HB4.out.size; simp; omega) (w4.heap.size + 1) (by simp) ?_; intro gA capA wA hownA hgrowA hatA hltA)
      exact ⟨⟨i + 1, HI.out, by simp, by rw [flatF_succ, HNW.out]; exact hownA, (fun e => by omega), below_own HB4.out HB4.out.size HO4.out hgrowA⟩, by have := HI.out; simp only [intOf]; omega⟩
    · obtain rfl : i = K := by omega
      have hltz : ¬ (i : Int) < (i : Int) := by omega
      have hrw := own_row ho hz
      have hbw := HB2.out.trans (hbr.mono HB2.out.size)
      have hGr := H0.out.hG.below hbw
      have hHr : HpAt wr b.HP b.Mb b.TU b.LG p (.pointer (some ⟨b.C, 0, none⟩)) false := keep hbw HH.out
      have hhm : HomesIn wr w2.heap.size u6 i (fun i => 16 + (q0 + i)) (fun i => lineW (appl a0 V (hW m p.L) k) (q0 + i)) := ⟨hrw.sl, hrw.ob, fun j _ => lineW_len _ _⟩
      have hw2 := HB2.out.size
      have hb1 : b.TU < w.heap.size := lt_of_obj H0.out.hG.hT.hT
      have hb2 : b.Mb < w.heap.size := H0.out.hG.hT.hM.hM.lt
      have hb3 : b.Cb < w.heap.size := H0.out.hG.hT.hM.hL.lt
      have hqk := HQK.out
      have KC := Lib.hid (commit_cut hGr H0.out.gd H0.out.cut H0.out.mask (by have := H0.out.gd.w1; have := H0.out.wr; omega) H0.out.r1 hhm (by omega) (by omega) (fun j hj => by omega) (fun j1 j2 h1 h2 => by omega))
      unfold HpAt hpC at hHr
      have HHR := Lib.hid (show HpAt wr b.HP b.Mb b.TU b.LG p (.pointer (some ⟨b.C, 0, none⟩)) false from hHr)
      have HBW := Lib.hid hbw
      clear hi hlt ho hz hbr hrw hbw hGr hhm hw2 hb1 hb2 hb3 hqk
      go_wp2_with fail
      refine KC.out.mono ?_
      rintro _ w3 ⟨m1, rfl, hm1, hco, hk1⟩
      have hH3 : HpAt w3 b.HP b.Mb b.TU b.LG p (.pointer (some ⟨b.C, 0, none⟩)) false := hk1.keep HHR.out (H0.out.ap b.HP (by simp))
      have HM1 := Lib.hid hm1
      have HCO := Lib.hid hco
      have HK1 := Lib.hid hk1
      have hsz3 := lt_of_obj hH3
      unfold HpAt hpC at hH3
      clear hm1 hco hk1 KC hHr
      go_wp2_with fail
      refine (must_not 2 (by decide) _).mono ?_
      rintro _ _ ⟨rfl, rfl⟩
      have hap := H0.out.ap b.HP (by simp)
      have k8 : Kept [b.HP] w3 (w3.setCell ⟨b.HP, 8, none⟩ (.bool false)) := (Kept.refl _ _).setCell _ (Or.inl (by simp))
      refine ⟨rfl, m1, rfl, HM1.out.kept k8 (fun hx => hap (by simp at hx ⊢; omega)) (fun hx => hap (by simp at hx ⊢; omega)), HCO.out, ?_⟩
      exact ((Kept.of_below HBW.out).next HK1.out (fun x hx => Or.inl (by simp at hx ⊢; omega))).next k8 (fun x hx => Or.inl (by simp at hx ⊢; omega))
end
end Go.Proofs.YtphmfaddgpjndaaGreat
