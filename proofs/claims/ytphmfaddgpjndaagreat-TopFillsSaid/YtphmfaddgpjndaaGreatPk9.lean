/- Contracts and laws of their own, used by the claim's theorem: TopFills: the walk. -/
import Derived.Test.YtphmfaddgpjndaaGreatPk8
namespace Go.Proofs.YtphmfaddgpjndaaGreat
open Go.ChangeShapes Go.WideShapes Go.RowKit Go.Maps

@[go_sem] theorem field32 (w : World) (x y : Int) (o : Option Addr) (n c : Nat) : Sem.run Tryz.prog (Instr.field 32 (.agg #[.int .i64 x, .int .i64 y, .slice o n c]) 0) w = .ok (.int .i64 x) w := by
  kernel_rfl
/-- the blocks that are still taken, while they are freed in the order σ -/
structure Left (B : Bs) (m i : Nat) (a σ : Nat → Nat) : Prop where
  us : ∀ x s, Used B x s → ∃ j, m ≤ j ∧ j < i ∧ x = a (σ j)
  bl : ∀ j, m ≤ j → j < i → ∃ s, Used B (a (σ j)) s
def sg (back : Bool) (i j : Nat) : Nat := if back = true then i - 1 - j else j
theorem sg_lt {back : Bool} {i j : Nat} (h : j < i) : sg back i j < i := by unfold sg; split <;> omega
theorem Fill.inj {B : Bs} {W : Nat → Int} {n need i : Nat} {a : Nat → Nat} (h : Fill B W n need i a) {j1 j2 : Nat} (h1 : j1 < i) (h2 : j2 < i) (e : a j1 = a j2) : j1 = j2 := by
  rcases Nat.lt_trichotomy j1 j2 with h3 | h3 | h3
  · exact absurd e (h.ne _ _ h3 h2)
  · exact h3
  · exact absurd e.symm (h.ne _ _ h3 h1)
theorem Fill.left {B : Bs} {W : Nat → Int} {n need i : Nat} {a : Nat → Nat} (h : Fill B W n need i a) (back : Bool) : Left B 0 i a (sg back i) := by
  refine ⟨fun x s hu => ?_, fun j _ hj => ?_⟩
  · obtain ⟨j, hj, rfl⟩ := h.us x s hu
    refine ⟨sg back i j, Nat.zero_le _, sg_lt hj, ?_⟩
    congr 1
    unfold sg
    cases back <;> simp
    omega
  · obtain ⟨s, hs, _⟩ := h.bl (sg back i j) (sg_lt hj)
    exact ⟨s, hs⟩
theorem Left.step {B : Bs} {N m i x : Nat} {a σ : Nat → Nat} (h : Left B m i a σ) (hB : B.Ok N) (hm : m < i) (inj : ∀ j, m < j → j < i → a (σ j) ≠ a (σ m)) (hx : x < B.n) (hf : findP (((a (σ m) + 1) * 8 : Nat) : Int) (B.at x, B.sz x, B.us x) = true) :
    Left (B.merge (fromM B x) (toM B x)) (m + 1) i a σ := by
  have h4 := findP_at hB hx hf
  refine ⟨fun y s hu => ?_, fun j h1 h2 => ?_⟩
  · obtain ⟨h5, h6⟩ := (used_merge hB (around_of hB hx) y s).1 hu
    obtain ⟨j, h7, h8, rfl⟩ := h.us y s h5
    refine ⟨j, ?_, h8, rfl⟩
    rcases Nat.lt_or_ge m j with h9 | h9
    · exact h9
    · obtain rfl : j = m := by omega
      omega
  · obtain ⟨s, hs⟩ := h.bl j (by omega) h2
    have := inj j (by omega) h2
    exact ⟨s, (used_merge hB (around_of hB hx) _ s).2 ⟨hs, by omega⟩⟩
theorem Left.none {B : Bs} {N m i : Nat} {a σ : Nat → Nat} (h : Left B m i a σ) (hB : B.Ok N) (hm : i ≤ m) : B.n = 1 ∧ B.us 0 = false ∧ B.sz 0 = N :=
  none_used hB fun y s hu => by obtain ⟨j, h1, h2, _⟩ := h.us y s hu; omega

set_option maxRecDepth 100000 in
set_option maxHeartbeats 25600000 in
theorem fills_walk (l s q t n : Int) (back : Bool) (w : World) : Calls Tryz.prog 5 #[.agg #[.int .i64 l, .int .i64 s, .int .i64 q, .int .i64 t], .int .i64 n, .bool back] w fun e w' => e = .returned (.bool true) ∧ Below w.heap.size w w' := by
  obtain ⟨i0, hi0, hz0, hz1, hz2⟩ := info_parts' info3
  have KS := fun w => small_any l s q t w
  have hpok := smallP_ok l s q t
  have hp24 := smallP_le l s q t
  generalize smallP l s q t = P at KS hpok hp24
  have KN := fun w => tnew_any (w := w) hpok
  have hPL := hpok.hl
  have HPOK := Lib.hid hpok
  unfold Pl.v at KS KN
  have KS := Lib.hid KS
  have KN := Lib.hid KN
  have hn := sz440_eq n
  have hnl := sz440_le n
  generalize sz440 n = n1 at hn hnl
  have HNK := Lib.hid hnl
  have HPL := Lib.hid (And.intro hPL hp24)
  clear hp24
  have hq := newA w (.cells #[.int .i64 l, .int .i64 s, .int .i64 q, .int .i64 t] 23)
  have HB0 := Lib.hid ((Below.refl w.heap.size w).alloc (Nat.le_refl _) (.cells #[.int .i64 l, .int .i64 s, .int .i64 q, .int .i64 t] 23))
  clear hnl hpok hPL
  go_enter Tryz.func5, Tryz.ntmps5
  go_wp2_with fail
  generalize w.alloc (.cells #[.int .i64 l, .int .i64 s, .int .i64 q, .int .i64 t] 23) = w0 at hq HB0 ⊢
  obtain ⟨p0, hp0⟩ : ∃ x, w.heap.size = x := ⟨_, rfl⟩
  have HP0 := Lib.hid hp0
  rw [hp0] at hq ⊢
  clear hp0
  refine (KS.out _).mono ?_
  rintro _ w1 ⟨rfl, hb⟩
  have hq1 := keep hb hq
  have hql := lt_of_obj hq1
  have HB1 := Lib.hid (HB0.out.trans (hb.mono HB0.out.size))
  have HQ1 := Lib.hid hq1
  clear hb hq KS HB0
  go_wp2_with fail
  have k5 : Kept [p0] w1 ((((w1.setCell ⟨p0, 0, none⟩ (.int .i64 P.L)).setCell ⟨p0, 1, none⟩ (.int .i64 P.S)).setCell ⟨p0, 2, none⟩ (.int .i64 P.P)).setCell ⟨p0, 3, none⟩ (.int .i64 P.B)) :=
    ((((Kept.refl [p0] w1).setCell (p := ⟨p0, 0, none⟩) _ (Or.inl (by simp))).setCell (p := ⟨p0, 1, none⟩) _ (Or.inl (by simp))).setCell (p := ⟨p0, 2, none⟩) _ (Or.inl (by simp))).setCell (p := ⟨p0, 3, none⟩) _ (Or.inl (by simp))
  have hq2 : obj ((((w1.setCell ⟨p0, 0, none⟩ (.int .i64 P.L)).setCell ⟨p0, 1, none⟩ (.int .i64 P.S)).setCell ⟨p0, 2, none⟩ (.int .i64 P.P)).setCell ⟨p0, 3, none⟩ (.int .i64 P.B)) p0 = some (.cells #[.int .i64 P.L, .int .i64 P.S, .int .i64 P.P, .int .i64 P.B] 23 (0, 0)) := by
    simp [obj_setCell_eq, hq1, setAt]
  have HB2 := Lib.hid (below_list HB1.out k5 (fun x hx => by have := HP0.out; simp at hx; omega))
  generalize (((w1.setCell ⟨p0, 0, none⟩ (.int .i64 P.L)).setCell ⟨p0, 1, none⟩ (.int .i64 P.S)).setCell ⟨p0, 2, none⟩ (.int .i64 P.P)).setCell ⟨p0, 3, none⟩ (.int .i64 P.B) = w2 at hq2 HB2 ⊢
  have hql2 := lt_of_obj hq2
  clear k5 hq1 hql HB1 HQ1
  rw [hn]
  refine (KN.out _).mono ?_
  rintro _ w3 ⟨TW, hb0, W0, rfl, htw, hW, hfr, hb⟩
  have HFR : Hid (∀ x ∈ TW :: hb0.list, w.heap.size ≤ x) := Lib.hid (fun x hx => Nat.le_trans HB2.out.size (hfr x hx))
  have HFP : Hid (p0 ∉ TW :: hb0.list) := Lib.hid (fun hx => by have := hfr p0 hx; omega)
  have HLT3 := Lib.hid htw.lts
  have HB3 := Lib.hid (HB2.out.trans (hb.mono HB2.out.size))
  have HNN : Hid (needN (n1 : Int) = (n1 + 7) / 8 + 1) := Lib.hid (need440 HNK.out)
  have HQP := Lib.hid (keep hb hq2)
  have HTW3 := Lib.hid htw
  clear htw hW hfr hb KN hq2 hql2 HB2
  go_wp2_with fail
  have hown0 : w3.ownsRow w3.heap.size 3 1 (.slice none 0 0) 0 (flatF 1 (natF fun j => ((fun _ => 0 : Nat → Nat) j + 1) * 8) 0) := World.ownsRow_nil _ _ _ _
  have HF0 : Hid (Fill (B0 (P.L * 8)) W0 n1 (needN (n1 : Int)) 0 (fun _ => 0)) := Lib.hid ⟨fun x s h => absurd h (B0_used _ _ _), fun j hj => by omega, fun j1 j2 _ h => by omega, fun j hj => by omega⟩
  go_loopw [40, 9] (fun ix sl wr => ∃ (i : Nat) (B : Bs) (W : Nat → Int) (a : Nat → Nat) (now : Nat → Int), i ≤ 200 ∧ ix = .int .i64 i ∧ wr.ownsRow w3.heap.size 3 1 sl i (flatF 1 (natF fun j => (a j + 1) * 8) i) ∧ (i = 0 → sl = .slice none 0 0) ∧
      Tw wr TW hb0 P now B W 0 (0 + 18 * i) (300 + 400 * i) ∧ Fill B W n1 (needN (n1 : Int)) i a ∧ (i = 0 → ∃ j, j < B.n ∧ B.us j = false ∧ B.sz j = P.L * 8) ∧ Kept (TW :: hb0.list) w3 wr) (fun ix _ _ => 200 - (intOf ix).toNat)
  case atStart => exact ⟨0, B0 (P.L * 8), W0, fun _ => 0, fun _ => 0, Nat.zero_le _, rfl, hown0, fun _ => rfl, HTW3.out, HF0.out, fun _ => ⟨0, by show 0 < 1; omega, rfl, rfl⟩, Kept.refl _ _⟩
  case round =>
    obtain ⟨i, B, W, a, now, hi, rfl, hown, hnil, htw, hfl, hz0', hkr⟩ := hrel
    have HOW := Lib.hid hown
    have HNL := Lib.hid hnil
    have HTW := Lib.hid htw
    have HFL := Lib.hid hfl
    have HZ := Lib.hid hz0'
    have HKR := Lib.hid hkr
    obtain ⟨aos, caps, rfl⟩ := (own_sl hown hnil).form
    have hcnt := hfl.count htw.st.hB
    have hpl := HPL.out
    by_cases hlt : i < 200
    · have hltz : (i : Int) < 200 := by omega
      have wi : IntKind.i64.wrap ((i : Int) + 1) = (i : Int) + 1 := by rw [IntKind.wrap_i64]; omega
      have hi96 : i ≤ 96 := by omega
      have HI := Lib.hid hi96
      have KA := Lib.hid (tdo_any htw (by omega) (by omega) ⟨1, 0, n1, 0, 0, fun _ => 0⟩ (by show (1 : Int) ≠ 7; decide) (by show (1 : Int) ≠ 8; decide) (sl_nil _ 0 _) (fun i hi => by simp at hi))
      unfold opV at KA
      clear hi hlt hown hnil htw hfl hz0' hkr hcnt hpl hi96
      go_wp2_with fail
      refine KA.out.mono ?_
      rintro _ w4 ⟨err, o, v, W', W2, r', nn, c, B', now', rfl, htw4, hww, hle, hsl, hdid, hk4⟩
      have HDID := Lib.hid hdid
      have HRES := Lib.hid (And.intro htw4 (And.intro hww hk4))
      have hn0 : needN (n1 : Int) ≠ 0 := by rw [HNN.out]; omega
      clear hdid htw4 hww hk4 hle
      obtain ⟨aov, capv, rfl⟩ := hsl.form
      have hs4 := HRES.out.2.2.size
      have HGA : Hid (w4.heap.size ∉ TW :: hb0.list) := Lib.hid (fun hx => by have := HLT3.out _ hx; have := HKR.out.size; omega)
      have hqa := newA w4 (.cells #[.int .i64 err, .int .i64 o, .slice aov nn capv] 32)
      have HTW4 := Lib.hid (HRES.out.1.below ((Below.refl w4.heap.size w4).alloc (Nat.le_refl _) (.cells #[.int .i64 err, .int .i64 o, .slice aov nn capv] 32)))
      have HKA := Lib.hid ((HKR.out.trans HRES.out.2.2).alloc (.cells #[.int .i64 err, .int .i64 o, .slice aov nn capv] 32))
      rcases HDID.out.alloc' rfl hn0 with ⟨rfl, rfl, rfl, rfl, rfl, hno⟩ | ⟨rfl, rfl, k, hk, hfit, _, ho, rfl, rfl⟩
      · have HNO := Lib.hid hno
        unfold ansV
        clear hsl hno hn0 KA
        have HO5 := Lib.hid (own_kept HOW.out (HRES.out.2.2.alloc (.cells #[.int .i64 4, .int .i64 0, .slice aov nn capv] 32)) HLT3.out)
        have HFL5 := Lib.hid (HFL.out.congr HRES.out.1.st.hB HNN.out (by have := HNK.out; omega) HRES.out.2.1)
        have HI96 := Lib.hid HI.out
        go_wp2_with fail
        generalize w4.alloc (.cells #[.int .i64 4, .int .i64 0, .slice aov nn capv] 32) = w5 at HTW4 HKA HO5 ⊢
        have HS5 := Lib.hid (own_sl HO5.out HNL.out)
        have HTW5 : Hid (Tw w5 TW hb0 P now' B' W2 0 2000 50000) := Lib.hid (HTW4.out.mono (by have := HI96.out; omega) (by have := HI96.out; omega))
        obtain ⟨n2, hn2⟩ : ∃ n2, n1 - 1 = n2 := ⟨_, rfl⟩
        have HN2 := Lib.hid hn2
        clear hqa HOW HRES HTW4 HO5 HDID HTW HFL HKR hn2
        go_loopw [76] (fun ix wq => ∃ (j : Nat) (W : Nat → Int) (now : Nat → Int), j ≤ i ∧ ix = .int .i64 j ∧ Tw wq TW hb0 P now B' W 0 (2000 + 9 * j) (50000 + 200 * j) ∧ Fill B' W n1 (needN (n1 : Int)) i a ∧ SlOf wq w3.heap.size (.slice aos i caps) 1 i (natF fun j => (a j + 1) * 8) ∧ Kept (TW :: hb0.list) w3 wq) (fun ix _ => i - (intOf ix).toNat)
        case atStart => exact ⟨0, W2, now', Nat.zero_le _, rfl, HTW5.out, HFL5.out, HS5.out, HKA.out⟩
        case round =>
          obtain ⟨j, Wj, nowj, hj, rfl, htwj, hflj, hsj, hkj⟩ := hrel
          have HTWJ := Lib.hid htwj
          have HFLJ := Lib.hid hflj
          have HSJ := Lib.hid hsj
          have HKJ := Lib.hid hkj
          by_cases hlt2 : j < i
          · have hltz2 : (j : Int) < (i : Int) := by omega
            have j0' : (0 : Int) ≤ (j : Int) := Int.natCast_nonneg j
            have hii := HI96.out
            have hnk := HNK.out
            have hn2 := HN2.out
            have wj : IntKind.i64.wrap ((j : Int) + 1) = (j : Int) + 1 := by rw [IntKind.wrap_i64]; omega
            have wn2 : wrap64 ((n1 : Int) - 1) = (n2 : Int) := by unfold wrap64; omega
            obtain ⟨gs, offs, cs', es, _, _, _, hcs⟩ := hsj.cells (by omega)
            obtain ⟨rfl, rfl⟩ : aos = some ⟨gs, offs, none⟩ ∧ caps = cs' := by simpa using es
            have hcl := hcs j hlt2 0 (by decide)
            rw [Nat.mul_one, Nat.add_zero] at hcl
            have hgs := lt_of_cell hcl
            obtain ⟨oj, hoj⟩ : ∃ oj : Int, (((a j + 1) * 8 : Nat) : Int) = oj := ⟨_, rfl⟩
            replace hcl : cellAt (obj _ gs) (offs + j) = some (.int .i64 (((a j + 1) * 8 : Nat) : Int)) := hcl
            rw [hoj] at hcl
            have HOJ := Lib.hid hoj
            obtain ⟨sj, husj, hnj⟩ := hflj.bl j hlt2
            have HHO : Hid (holdsN B' oj n1 = true) := Lib.hid (used_holds htwj.st.hB husj (by omega) (by omega) (by have := HNN.out; omega))
            have KR := Lib.hid (tdo_any htwj (by omega) (by omega) ⟨3, oj, n1, 0, 0, fun _ => 0⟩ (by show (3 : Int) ≠ 7; decide) (by show (3 : Int) ≠ 8; decide) (sl_nil _ 0 _) (fun i hi => by simp at hi))
            unfold opV at KR
            have HJ := Lib.hid hlt2
            clear hj hlt2 htwj hflj hsj hkj hii hnk hn2 es hcs hoj husj hnj
            go_wp2_with fail
            refine KR.out.mono ?_
            rintro _ w7 ⟨err7, o7, v7, W7', W7, r7, n7, c7, B7, now7, rfl, htw7, hww7, _, hsl7, hdid7, hk7⟩
            obtain ⟨rfl, rfl, hn7, hc7, hW7, hr7, hB7⟩ := hdid7.readOk' rfl HHO.out
            replace hn7 : n7 = n1 := hn7
            subst hn7
            rw [hW7] at hww7
            rw [hB7, hr7] at htw7
            have HFL7 := Lib.hid (HFLJ.out.congr htw7.st.hB HNN.out (by have := HNK.out; omega) hww7)
            have hby := HFLJ.out.bytes HNK.out.1 (by have := HI96.out; omega) HJ.out
            have hc1 : c7 n2 = ((j : Int) + 1) := by
              rw [hc7]
              show byteW Wj (oj.toNat + n2) = _
              have e1 : oj.toNat + n2 = (a j + 1) * 8 + (n7 - 1) := by have := HOJ.out; have := HN2.out; omega
              rw [e1, hby.1]; omega
            have hc0 : c7 0 = 0 := by
              rw [hc7]
              show byteW Wj (oj.toNat + 0) = 0
              have e1 : oj.toNat + 0 = (a j + 1) * 8 := by have := HOJ.out; omega
              rw [e1]; exact hby.2
            obtain ⟨g7, off7, cap7, rfl, _, _, _, hcell7⟩ := hsl7.cells (by have := HNK.out; omega)
            have hd1 := hcell7 n2 (by have := HN2.out; have := HNK.out; omega) 0 (by decide)
            have hd0 := hcell7 0 (by have := HNK.out; omega) 0 (by decide)
            rw [Nat.mul_one, Nat.add_zero, hc1] at hd1
            rw [Nat.zero_mul, Nat.add_zero, hc0] at hd0
            have ka := (below_kept ((Below.refl w7.heap.size w7).alloc (Nat.le_refl _) (.cells #[.int .i64 0, .int .i64 0, .slice (some ⟨g7, off7, none⟩) n7 cap7] 32)))
            have hg7l := lt_of_cell hd1
            have hn2e := HN2.out
            rw [← hn2e] at hd1
            have n22 : ((n7 - 1 : Nat) : Int) < (n7 : Int) := by have := HNK.out; omega
            have n23 : n7 - 1 < n7 := by have := HNK.out; omega
            clear hn2e
            have hq7 := newA w7 (.cells #[.int .i64 0, .int .i64 0, .slice (some ⟨g7, off7, none⟩) n7 cap7] 32)
            have HT7 := Lib.hid (htw7.below ((Below.refl w7.heap.size w7).alloc (Nat.le_refl _) (.cells #[.int .i64 0, .int .i64 0, .slice (some ⟨g7, off7, none⟩) n7 cap7] 32)))
            have HS7 := Lib.hid ((HSJ.out.kept hk7 HLT3.out).alloc (.cells #[.int .i64 0, .int .i64 0, .slice (some ⟨g7, off7, none⟩) n7 cap7] 32))
            have HK7 := Lib.hid ((HKJ.out.trans hk7).alloc (.cells #[.int .i64 0, .int .i64 0, .slice (some ⟨g7, off7, none⟩) n7 cap7] 32))
            have hjb : (j : Int) + 1 < 256 := by have := HI96.out; have := HJ.out; omega
            have n20 : (0 : Int) ≤ (n2 : Int) := Int.natCast_nonneg n2
            have n21 : (n2 : Int) < (n7 : Int) := by have := HN2.out; have := HNK.out; omega
            have n70 : (0 : Int) < (n7 : Int) := by have := HNK.out; omega
            have n71 : 0 < n7 := by have := HNK.out; omega
            unfold ansV
            clear hsl7 hdid7 hk7 KR htw7 hww7 hW7 hr7 hB7 hby hc1 hc0 hc7 hcell7 ka hcl
            go_wp2_with fail
            refine ⟨⟨j + 1, W7, now7, HJ.out, by simp, HT7.out.mono (by omega) (by omega), HFL7.out, HS7.out, HK7.out⟩, by have := HJ.out; simp only [intOf]; omega⟩
          · obtain rfl : j = i := by omega
            have hltz2 : ¬ (j : Int) < (j : Int) := by omega
            have HLF := Lib.hid (hflj.left back)
            have hpl := HPL.out
            have HEQ : Hid ((0 < j) ↔ needN (n1 : Int) ≤ P.L * 8) := Lib.hid (by
              refine ⟨fun h => ?_, fun h => ?_⟩
              · obtain ⟨s, ⟨k, hk, _, e1, e2⟩, hs⟩ := hflj.bl 0 h
                have := htwj.st.hB.le hk
                omega
              · refine Nat.pos_of_ne_zero fun e => ?_
                obtain ⟨k, hk, hu, hz⟩ := HZ.out e
                exact HNO.out k hk ⟨hu, by omega⟩)
            clear hj hlt2 htwj hflj hsj hkj hpl
            go_wp2_with fail
            go_loopw [118] (fun ix wq => ∃ (m : Nat) (B : Bs) (W : Nat → Int) (now : Nat → Int), m ≤ j ∧ ix = .int .i64 m ∧ Tw wq TW hb0 P now B W 0 (4000 + 9 * m) (90000 + 200 * m) ∧ Left B m j a (sg back j) ∧ SlOf wq w3.heap.size (.slice aos j caps) 1 j (natF fun j => (a j + 1) * 8) ∧ Kept (TW :: hb0.list) w3 wq) (fun ix _ => j - (intOf ix).toNat)
            case atStart => exact ⟨0, B', Wj, nowj, Nat.zero_le _, rfl, HTWJ.out.mono (by have := HI96.out; omega) (by have := HI96.out; omega), HLF.out, HSJ.out, HKJ.out⟩
            case round =>
              obtain ⟨m, Bm, Wm, nowm, hm, rfl, htwm, hlm, hsm, hkm⟩ := hrel
              have HTWM := Lib.hid htwm
              have HLM := Lib.hid hlm
              have HSM := Lib.hid hsm
              have HKM := Lib.hid hkm
              by_cases hlt3 : m < j
              · have hltz3 : (m : Int) < (j : Int) := by omega
                have hii := HI96.out
                have m0' : (0 : Int) ≤ (m : Int) := Int.natCast_nonneg m
                have j0' : (0 : Int) ≤ (j : Int) := Int.natCast_nonneg j
                have wm : IntKind.i64.wrap ((m : Int) + 1) = (m : Int) + 1 := by rw [IntKind.wrap_i64]; omega
                obtain ⟨gs, offs, cs', es, _, _, _, hcs⟩ := hsm.cells (by omega)
                obtain ⟨rfl, rfl⟩ : aos = some ⟨gs, offs, none⟩ ∧ caps = cs' := by simpa using es
                have hyj : j - 1 - m < j := by omega
                have hcl := hcs m hlt3 0 (by decide)
                have hcl2 := hcs (j - 1 - m) hyj 0 (by decide)
                rw [Nat.mul_one, Nat.add_zero] at hcl hcl2
                have hgs := lt_of_cell hcl
                obtain ⟨oj, hoj⟩ : ∃ oj : Int, (((a m + 1) * 8 : Nat) : Int) = oj := ⟨_, rfl⟩
                obtain ⟨oy, hoy⟩ : ∃ oy : Int, (((a (j - 1 - m) + 1) * 8 : Nat) : Int) = oy := ⟨_, rfl⟩
                replace hcl : cellAt (obj _ gs) (offs + m) = some (.int .i64 (((a m + 1) * 8 : Nat) : Int)) := hcl
                replace hcl2 : cellAt (obj _ gs) (offs + (j - 1 - m)) = some (.int .i64 (((a (j - 1 - m) + 1) * 8 : Nat) : Int)) := hcl2
                rw [hoj] at hcl
                rw [hoy] at hcl2
                obtain ⟨of, hof⟩ : ∃ of : Int, (if back = true then oy else oj) = of := ⟨_, rfl⟩
                have HOF : Hid (of = (((a (sg back j m) + 1) * 8 : Nat) : Int)) := Lib.hid (by
                  rw [← hof]
                  unfold sg
                  cases back
                  · simp [hoj]
                  · rw [if_pos rfl, if_pos rfl, ← hoy])
                have KF := Lib.hid (tdo_any htwm (by omega) (by omega) ⟨2, of, 0, 0, 0, fun _ => 0⟩ (by show (2 : Int) ≠ 7; decide) (by show (2 : Int) ≠ 8; decide) (sl_nil _ 0 _) (fun i hi => by simp at hi))
                unfold opV at KF
                have HM := Lib.hid hlt3
                have hyz : ((j - 1 - m : Nat) : Int) < (j : Int) := by omega
                clear hm hlt3 htwm hlm hsm hkm hii es hcs hoj hoy
                have HFIN : Hid (Calls Tryz.prog 9 #[.pointer (some ⟨TW, 0, none⟩), .agg #[.int .i64 2, .int .i64 of, .int .i64 0, .int .i64 0, .slice none 0 0]] wr fun e w9 => ∃ (ao9 : Option Addr) (n9 cap9 : Nat) (B9 : Bs) (W9 : Nat → Int) (now9 : Nat → Int), e = .returned (ansV 0 0 (.slice ao9 n9 cap9)) ∧ Tw w9 TW hb0 P now9 B9 W9 0 (4000 + 9 * (m + 1)) (90000 + 200 * (m + 1)) ∧ Left B9 (m + 1) j a (sg back j) ∧ SlOf w9 w3.heap.size (.slice (some ⟨gs, offs, none⟩) j caps) 1 j (natF fun j => (a j + 1) * 8) ∧ Kept (TW :: hb0.list) w3 w9) := Lib.hid (KF.out.mono (by
                  rintro _ w9 ⟨err, o, v9, W9', W9, r9, n9, c9, B9, now9, rfl, htw9, _, _, hsl9, hdid9, hk9⟩
                  have hst := HTWM.out.st.hB
                  obtain ⟨sm, husm⟩ := HLM.out.bl m (Nat.le_refl _) HM.out
                  obtain ⟨x0, hx0, hf0⟩ := used_found hst husm
                  rw [← HOF.out] at hf0
                  obtain ⟨rfl, rfl, rfl, x, hx, hf, rfl, rfl⟩ := hdid9.freeOk' rfl hx0 hf0 (by show (0 : Int) ≠ of; rw [HOF.out]; omega)
                  replace hf : findP of (Bm.at x, Bm.sz x, Bm.us x) = true := hf
                  rw [HOF.out] at hf
                  obtain ⟨ao9, cap9, rfl⟩ := hsl9.form
                  refine ⟨ao9, _, cap9, _, W9, now9, rfl, htw9.mono (by omega) (by omega), HLM.out.step hst HM.out (fun t h1 h2 e => ?_) hx hf, HSM.out.kept hk9 HLT3.out, HKM.out.trans hk9⟩
                  have h3 := HFLJ.out.inj (sg_lt (back := back) h2) (sg_lt (back := back) HM.out) e
                  have := HM.out
                  revert h3
                  unfold sg
                  split <;> omega))
                clear hyj KF
                cases back
                all_goals
                  first
                  | rw [if_pos rfl] at hof
                  | rw [if_neg (by decide)] at hof
                  subst hof
                  go_wp2_with fail
                  refine HFIN.out.mono ?_
                  rintro _ w9 ⟨ao9, n9, cap9, B9, W9, now9, rfl, htw9, hl9, hs9, hk9⟩
                  have HE := Lib.hid (And.intro htw9 (And.intro hl9 (And.intro hs9 hk9)))
                  unfold ansV
                  clear htw9 hl9 hs9 hk9
                  go_wp2_with fail
                  refine ⟨⟨m + 1, B9, W9, now9, HM.out, by simp, HE.out.1, HE.out.2.1, HE.out.2.2.1, HE.out.2.2.2⟩, by have := HM.out; simp only [intOf]; omega⟩
              · obtain rfl : m = j := by omega
                have hltz3 : ¬ (m : Int) < (m : Int) := by omega
                have HNONE := Lib.hid (hlm.none htwm.st.hB (Nat.le_refl _))
                have KH := Lib.hid (tw_heap htwm)
                have KO := Lib.hid (tw_words htwm)
                have HBM := Lib.hid (below_list HB3.out hkm HFR.out)
                have HQM := Lib.hid (hkm.keep HQP.out HFP.out)
                clear hm hlt3 htwm hlm hsm hkm
                go_wp2_with fail
                refine KH.out.mono ?_
                rintro _ _ ⟨rfl, rfl⟩
                go_wp2_with fail
                refine KO.out.mono ?_
                rintro _ wx ⟨vx, rfl, hslx, hbx⟩
                have KB := Lib.hid (blocks_any hslx HTWM.out.st.hB HTWM.out.st.he)
                have HBX := Lib.hid (HBM.out.trans (hbx.mono HBM.out.size))
                have HQX := Lib.hid (keep hbx HQM.out)
                obtain ⟨aox, capx, rfl⟩ := hslx.form
                clear hslx hbx
                go_wp2_with fail
                refine KB.out.mono ?_
                rintro _ wz ⟨vz, rfl, hslz, hbz⟩
                have HBZ := Lib.hid (HBX.out.trans (hbz.mono HBX.out.size))
                have hqz := keep hbz HQX.out
                obtain ⟨aoz, capz, rfl⟩ := hslz.form
                rw [HNONE.out.1]
                clear hslz hbz
                go_wp2_with fail
                have hqzl := lt_of_obj hqz
                have KND := Lib.hid (fun w => need_any (n1 : Int) w)
                have KWD := Lib.hid (fun w => words_any HPOK.out w)
                have KAW := Lib.hid (fun w => awake_any w)
                unfold Pl.v at KWD
                obtain ⟨nw, hnw⟩ : ∃ x : Int, ((needN (n1 : Int) : Nat) : Int) = x := ⟨_, rfl⟩
                obtain ⟨pw, hpw⟩ : ∃ x : Int, ((P.L * 8 : Nat) : Int) = x := ⟨_, rfl⟩
                have HEZ : Hid (0 < m ↔ nw ≤ pw) := Lib.hid (by have := HEQ.out; omega)
                rw [hnw] at KND
                rw [hpw] at KWD
                clear hnw hpw
                by_cases h0 : 0 < m
                all_goals
                  have h1 := h0
                  rw [HEZ.out] at h1
                  refine wp_region_more (by kernel_rfl) (by kernel_rfl) ?_
                  repeat (go_big_quiet_step (first | (go_at_call 14; exact more_call ((KND.out _).mono (by rintro _ _ ⟨rfl, rfl⟩; exact ⟨rfl, Below.refl _ _⟩))) | (go_at_call 21; exact more_call (KWD.out _)) | (go_at_call 10; exact more_call (KAW.out _))))
                  refine wpQuiet_nil ?_
                  intro _ hw'
                  obtain ⟨y, hw''⟩ := hw'
                  subst hw''
                  go_wp2_with fail
                  go_ret
                  exact ⟨rfl, HBZ.out.trans ((more_below wz y).mono HBZ.out.size)⟩
      · have HK := Lib.hid (And.intro hk hfit)
        have HO := Lib.hid ho
        have hpos := HRES.out.1.st.hB.le (carve_at_k B hk).1
        have hB := HTW.out.st.hB
        have hle := hB.le hk
        have hpl := HPL.out
        have hnk := HNK.out
        have h2 : 2 ≤ needN (n1 : Int) ∧ needN (n1 : Int) ≤ B.sz k := by have := HNN.out; exact ⟨by omega, hfit.2⟩
        have htk := takes_two h2
        have hoff := off_eq (o := o) (n := n1) ⟨by omega, by omega, hnk⟩
        have hob := newA (w4.alloc (.cells #[.int .i64 0, .int .i64 o, .slice aov nn capv] 32)) (.cells #[.int .u8 ((i : Int) + 1)] 5)
        have hsz : (w4.alloc (.cells #[.int .i64 0, .int .i64 o, .slice aov nn capv] 32)).heap.size = w4.heap.size + 1 := by simp
        rw [hsz] at hob
        have hqa6 := keepA (.cells #[.int .u8 ((i : Int) + 1)] 5) hqa
        have HTW6 := Lib.hid (HTW4.out.below ((Below.refl (w4.alloc (.cells #[.int .i64 0, .int .i64 o, .slice aov nn capv] 32)).heap.size _).alloc (Nat.le_refl _) (.cells #[.int .u8 ((i : Int) + 1)] 5)))
        have HK6 := Lib.hid (HKA.out.alloc (.cells #[.int .u8 ((i : Int) + 1)] 5))
        have HO6 := Lib.hid (own_kept HOW.out ((HRES.out.2.2.alloc (.cells #[.int .i64 0, .int .i64 o, .slice aov nn capv] 32)).alloc (.cells #[.int .u8 ((i : Int) + 1)] 5)) HLT3.out)
        have HSL6 : Hid (SlOf ((w4.alloc (.cells #[.int .i64 0, .int .i64 o, .slice aov nn capv] 32)).alloc (.cells #[.int .u8 ((i : Int) + 1)] 5)) (w4.heap.size + 1) (.slice (some ⟨w4.heap.size + 1, 0, none⟩) 1 1) 1 1 (fun _ _ => .int .u8 ((i + 1 : Nat) : Int))) := Lib.hid (Or.inr ⟨w4.heap.size + 1, 0, 1, rfl, by decide, Nat.le_refl _, by decide, Nat.le_refl _, fun x hx y hy => by
          obtain rfl : x = 0 := by omega
          obtain rfl : y = 0 := by omega
          rw [hob]; rfl⟩)
        have HUS := Lib.hid ((used_carve hB hk hfit.1 htk.2.2.1 (B.at k) (takesN (B.sz k) (needN (n1 : Int)))).2 (Or.inr ⟨rfl, rfl⟩))
        have HTK := Lib.hid htk
        have HLE := Lib.hid hle
        unfold ansV
        clear hsl hk hfit ho hn0 KA hpos hB hle hpl hnk h2 htk hob hsz
        go_wp2_with fail
        generalize (w4.alloc (.cells #[.int .i64 0, .int .i64 o, .slice aov nn capv] 32)).alloc (.cells #[.int .u8 ((i : Int) + 1)] 5) = w6 at hqa6 HTW6 HK6 HSL6 HO6 ⊢
        obtain ⟨ga, hga⟩ : ∃ x, w4.heap.size = x := ⟨_, rfl⟩
        have HSG := Lib.hid hga
        rw [hga] at hqa6 HSL6 HGA ⊢
        have HQA6 := Lib.hid hqa6
        have hi2 := HI.out
        have KW := Lib.hid (tdo_any HTW6.out (by omega) (by omega) ⟨4, o + ((n1 - 1 : Nat) : Int), 0, 0, 1, fun _ => ((i + 1 : Nat) : Int)⟩ (by show (4 : Int) ≠ 7; decide) (by show (4 : Int) ≠ 8; decide) HSL6.out (fun j hj => by show 0 ≤ ((i + 1 : Nat) : Int) ∧ ((i + 1 : Nat) : Int) < 256; omega))
        unfold opV at KW
        clear hga hqa6 hqa hi2 hoff
        refine KW.out.mono ?_
        rintro _ w7 ⟨err7, o7, v7, W7', W7, r7, n7, c7, B7, now7, rfl, htw7, hww7, _, hsl7, hdid7, hk7⟩
        obtain ⟨rfl, rfl, hW7, rfl, rfl⟩ := hdid7.writeOk' rfl (used_holds HTW6.out.st.hB HUS.out (by show (0 : Int) ≤ 1 ∧ (1 : Int) ≤ 448; decide) (by show _ ≤ o + ((n1 - 1 : Nat) : Int); have := HNK.out; have := HO.out; omega) (by show o + ((n1 - 1 : Nat) : Int) ≤ _ - ((1 : Nat) : Int); have := HTK.out.2.2.2; have := HNN.out; have := HNK.out; have := HO.out; omega))
        obtain ⟨ao7, cap7, rfl⟩ := hsl7.form
        have HFS : Hid (Fill (B.carve k (takesN (B.sz k) (needN (n1 : Int)))) W7 n1 (needN (n1 : Int)) (i + 1) (updF a i (B.at k))) := Lib.hid (by
          have hst := HFL.out.step HTW.out.st.hB ⟨HNK.out.1, by have := HNK.out; omega⟩ HNN.out (by have := HI.out; omega) HK.out.1 HK.out.2.1 HK.out.2.2
          refine hst.congr htw7.st.hB HNN.out (by have := HNK.out; omega) fun t ht => ?_
          rw [hww7 t ht, hW7]
          show wroteW W2 (o + ((n1 - 1 : Nat) : Int)).toNat 1 (fun _ => ((i + 1 : Nat) : Int)) t = _
          rw [off_nat HO.out]
          exact wroteW_congr (HRES.out.2.1 t ht))
        have hqa7 := hk7.keep HQA6.out HGA.out
        have HK7 := Lib.hid (HK6.out.trans hk7)
        have HGC : Hid (w3.heap.size ≤ ga) := Lib.hid (by have := HRES.out.2.2.size; have := HKR.out.size; have := HSG.out; omega)
        have hqa8 := keepA (.cells #[.int .i64 0, .int .i64 0, .slice ao7 n7 cap7] 32) hqa7
        have hqc8 := newA w7 (.cells #[.int .i64 0, .int .i64 0, .slice ao7 n7 cap7] 32)
        have HTW8 := Lib.hid (htw7.below ((Below.refl w7.heap.size w7).alloc (Nat.le_refl _) (.cells #[.int .i64 0, .int .i64 0, .slice ao7 n7 cap7] 32)))
        have HK8 := Lib.hid (HK7.out.alloc (.cells #[.int .i64 0, .int .i64 0, .slice ao7 n7 cap7] 32))
        have HO8 := Lib.hid (own_kept HO6.out (hk7.alloc (.cells #[.int .i64 0, .int .i64 0, .slice ao7 n7 cap7] 32)) HLT3.out)
        have HS8 : Hid (w3.heap.size ≤ w7.heap.size) := Lib.hid HK7.out.size
        have hs8 : (w7.alloc (.cells #[.int .i64 0, .int .i64 0, .slice ao7 n7 cap7] 32)).heap.size = w7.heap.size + 1 := by simp
        have HNEW := Lib.hid (news_new' (w7.alloc (.cells #[.int .i64 0, .int .i64 0, .slice ao7 n7 cap7] 32)) [.int .i64 o] 3 (w7.heap.size + 1) hs8)
        have HOA := Lib.hid (own_kept HO8.out ((Kept.refl (TW :: hb0.list) _).alloc (.cells #[.int .i64 o] 3)) HLT3.out)
        unfold ansV
        clear hsl7 hdid7 hk7 KW htw7 hww7 hW7 hqa7 hs8
        go_wp2_with (at_builtin; refine wpList_append_lies _ rfl (.tmp 68) (.tmp 71) 53 rfl w3.heap.size 3 i0 _ 1 8 Tryz.underlying53 hi0 hz0 hz1 hz2 rfl (by decide) _ i _ rfl HOA.out ⟨w7.heap.size + 1, 0, none⟩ 1 1 [.int .i64 o] rfl rfl HNEW.out (by simp [Value.oneCell']) (by decide) (by have := HI.out; unfold maxLen; omega) (by have := HI.out; omega) (by have := HS8.out; simp; omega) (w7.heap.size + 1 + 1) (by simp) ?_; intro gA capA wA hownA hgrowA hatA hltA)
        have hkb : Kept (Value.slice aos i caps).ownBlock.toList ((w7.alloc (.cells #[.int .i64 0, .int .i64 0, .slice ao7 n7 cap7] 32)).alloc (.cells #[.int .i64 o] 3)) wA := kept_grown hgrowA
        have hrow : ∀ x, (Value.slice aos i caps).ownBlock = some x → w3.heap.size ≤ x := fun x hx => (HO8.out.lt x hx).1
        have hox := offs_app a i (B.at k)
        have HTWA := Lib.hid ((HTW8.out.below ((Below.refl (w7.alloc (.cells #[.int .i64 0, .int .i64 0, .slice ao7 n7 cap7] 32)).heap.size _).alloc (Nat.le_refl _) (.cells #[.int .i64 o] 3))).kept hkb (fun x hx hx2 => by
          have h1 := HLT3.out x hx
          have h2 := hrow x (by simpa using hx2)
          omega))
        refine ⟨⟨i + 1, _, _, updF a i (B.at k), now7, by have := HI.out; omega, by simp, ?_, fun e => by omega, HTWA.out.mono (by omega) (by omega), HFS.out, fun e => by omega, (HK8.out.alloc (.cells #[.int .i64 o] 3)).grown hgrowA hrow⟩, by have := HI.out; simp only [intOf]; omega⟩
        rw [← hox, ← HO.out]
        exact hownA
    · omega
end Go.Proofs.YtphmfaddgpjndaaGreat
