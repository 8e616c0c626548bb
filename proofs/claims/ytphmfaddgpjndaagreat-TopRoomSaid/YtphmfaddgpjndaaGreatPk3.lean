/- Contracts and laws of their own, used by the claim's theorem: Contracts of package log: Get, Recover, finish. -/
import Derived.Test.YtphmfaddgpjndaaGreatPk2
import Derived.Deep.AppendLies
import Derived.StillTailTactics
import Derived.OwnWalk
import Derived.Lib.SliceRun
namespace Go.Proofs.YtphmfaddgpjndaaGreat
open Go.ChangeShapes Go.WideShapes Go.RowKit Go.Maps

theorem LogAt.kept {L : List Nat} {w w' : World} {LG Mb TU : Nat} (h : LogAt w LG Mb TU) (k : Kept L w w') (hn : LG ∉ L) : LogAt w' LG Mb TU := k.keep h hn
theorem LogAt.below {w w' : World} {LG Mb TU : Nat} (h : LogAt w LG Mb TU) (k : Below w.heap.size w w') : LogAt w' LG Mb TU := keep k h
section
variable {w w' : World} {LG TU LN Mb Cb n spares period puts : Nat} {m : MS}
theorem cont_len (h : TurnAt w TU LN Mb Cb n spares period puts m) (hg : Good m n spares) (x : Nat) : (m.cont n x).length = 8 := h.hM.len _ (by have := slotN_le (n := n) (mv := m.mv) (x := x) (by have := hg.n1; omega); rw [hg.hn]; omega)
set_option maxHeartbeats 1600000 in
theorem gget_in (hL : LogAt w LG Mb TU) (h : TurnAt w TU LN Mb Cb n spares period puts m) (hg : Good m n spares) (h0 : m.reg 1 = 0) (x : Nat) (hx : 16 ≤ x ∧ x < n) :
    Calls Tryz.prog 45 #[.pointer (some ⟨LG, 0, none⟩), .int .i64 x] w fun e w' => e = .returned (.tuple #[.agg (cs (m.cont n x)), .int .i64 0]) ∧ Below w.heap.size w w' := by
  have hA := h.alloc (.cells z8 91)
  have hLA := hL.below ((Below.refl _ _).alloc (Nat.le_refl _) (.cells z8 91))
  have K1 := Lib.hid (tlines_in hA.hT)
  have K2 := Lib.hid (homes_in hLA hA.hM hg.up h0)
  have K3 := Lib.hid (gmay_none n (by omega) (w.alloc (.cells z8 91)))
  have HA := Lib.hid hA
  have HLA := Lib.hid hLA
  have HG := Lib.hid hg
  have HX := Lib.hid hx
  have HZ := Lib.hid (newA w (.cells z8 91))
  have hlen := cont_len h hg x
  have HB0 : Hid (Below w.heap.size w (w.alloc (.cells z8 91))) := Lib.hid ((Below.refl _ _).alloc (Nat.le_refl _) _)
  have d1 : ¬ (x : Int) < 16 := by omega
  have d2 : ¬ (x : Int) ≥ (n : Int) := by omega
  have hL' : obj w LG = some (.cells #[.pointer (some ⟨Mb, 0, none⟩), .pointer (some ⟨TU, 0, none⟩)] 127 (0, 0)) := hL
  have b0 := lt_of_obj hL'
  obtain ⟨l, hl⟩ : ∃ l, m.cont n x = l := ⟨_, rfl⟩
  have HLL := Lib.hid hl
  rw [hl] at hlen ⊢
  clear h hA hg hx hL hLA h0 hl
  go_enter Tryz.func45, Tryz.ntmps45
  go_wp2_with fail
  refine K1.out.mono ?_
  rintro _ _ ⟨rfl, rfl⟩
  have hL0 : obj (w.alloc (.cells z8 91)) LG = some (.cells #[.pointer (some ⟨Mb, 0, none⟩), .pointer (some ⟨TU, 0, none⟩)] 127 (0, 0)) := HLA.out
  clear hL' b0
  generalize w.alloc (.cells z8 91) = w1 at HA HLA HZ HB0 K1 K2 K3 hL0 ⊢
  go_wp2_with fail
  refine K2.out.mono ?_
  rintro _ _ ⟨rfl, rfl⟩
  go_wp2_with fail
  refine K1.out.mono ?_
  rintro _ _ ⟨rfl, rfl⟩
  go_wp2_with fail
  refine K3.out.mono ?_
  rintro _ w2 ⟨rfl, hb⟩
  have hL2 : obj w2 LG = some (.cells #[.pointer (some ⟨Mb, 0, none⟩), .pointer (some ⟨TU, 0, none⟩)] 127 (0, 0)) := keep hb HLA.out
  have KG := tget_in (HA.out.below hb) HG.out x HX.out.2
  rw [HLL.out] at KG
  have KG := Lib.hid KG
  have HZ2 := Lib.hid (keep hb HZ.out)
  have HB2 := Lib.hid (HB0.out.trans (hb.mono HB0.out.size))
  clear K1 K2 K3 hb hL0
  go_wp2_with fail
  refine KG.out.mono ?_
  rintro _ w3 ⟨rfl, hb⟩
  have q := keep hb HZ2.out
  have HB3 := Lib.hid (HB2.out.trans (hb.mono HB2.out.size))
  clear hb KG hL2
  go_wp2_with fail
  refine ret_row2 rfl rfl (Tryz.isAgg91 _) (size91 _) (c := cs l) ?_ rfl rfl ⟨rfl, ?_⟩
  · rw [sz91]
    simp [go_sem, q, hlen]
  · exact setRow_below HB3.out (Nat.le_refl _) _
set_option maxHeartbeats 800000 in
theorem recover_in (hL : LogAt w LG Mb TU) (hm : MemAt w Mb Cb m) (hd : m.down = false) (h0 : m.reg 1 = 0) :
    Calls Tryz.prog 98 #[.pointer (some ⟨LG, 0, none⟩)] w fun e w' => e = .returned (.int .i64 0) ∧ w = w' := by
  have K2 := Lib.hid (homes_in hL hm hd h0)
  clear hL hm hd h0
  go_enter Tryz.func98, Tryz.ntmps98
  go_wp2_with (go_at_call 81; refine K2.out.mono ?_; rintro _ _ ⟨rfl, rfl⟩)
  go_ret
  exact ⟨rfl, rfl⟩
set_option maxHeartbeats 400000 in
theorem index_any (k : Nat) (hk : k ≤ 100) (w : World) : Calls Tryz.prog 117 #[.int .i64 k] w fun e w' => e = .returned (.int .i64 ((k + 7) / 8 : Nat)) ∧ w = w' := by
  obtain ⟨a, ha⟩ : ∃ a, k + 8 = a := ⟨_, rfl⟩
  obtain ⟨b, hb⟩ : ∃ b, k + 7 = b := ⟨_, rfl⟩
  obtain ⟨c, hc⟩ : ∃ c, b / 8 = c := ⟨_, rfl⟩
  have w1 : IntKind.i64.wrap ((k : Int) + 8) = (a : Int) := by rw [IntKind.wrap_i64]; omega
  have w2 : IntKind.i64.wrap ((a : Int) - 1) = (b : Int) := by rw [IntKind.wrap_i64]; omega
  have e1 : (b : Int).tdiv 8 = (c : Int) := by have := tdiv_nat b 8; rw [hc] at this; exact this
  have w3 : IntKind.i64.wrap (c : Int) = (c : Int) := by rw [IntKind.wrap_i64]; omega
  rw [hb, hc]
  clear hk ha hb hc
  go_enter Tryz.func117, Tryz.ntmps117
  go_wp2
  go_ret
  exact ⟨rfl, rfl⟩
end
end Go.Proofs.YtphmfaddgpjndaaGreat

/- log.finish. -/
namespace Go.Proofs.YtphmfaddgpjndaaGreat
open Go.ChangeShapes Go.WideShapes Go.RowKit Go.Maps

/-- behind the first k writes -/
def afterN (ln : Nat → Nat) (dt : Nat → List Int) (f : Nat → List Int) : Nat → Nat → List Int
  | 0 => f
  | k + 1 => updF (afterN ln dt f k) (ln k) (dt k)
/-- a log and what is below it -/
structure LogIn (w : World) (LG TU LN Mb Cb n spares period puts : Nat) (m : MS) : Prop where
  hG : LogAt w LG Mb TU
  hT : TurnAt w TU LN Mb Cb n spares period puts m
  ne : LG ≠ TU ∧ LG ≠ Mb ∧ LG ≠ Cb
  n16 : 16 < n
/-- homes in a slice of its own -/
structure HomesIn (w : World) (B : Nat) (v : Value) (k : Nat) (ln : Nat → Nat) (dt : Nat → List Int) : Prop where
  sl : SlOf w B v 9 k (homeF (fun i => (ln i : Int)) dt)
  ob : 0 < k → ∀ g off c, v = .slice (some ⟨g, off, none⟩) k c → ∃ c ty, obj w g = some (.cells c ty (0, 0))
  len : ∀ i, i < k → (dt i).length = 8
section
variable {w w' : World} {B k LG TU LN Mb Cb n spares period puts : Nat} {m : MS} {v : Value} {ln : Nat → Nat} {dt : Nat → List Int}
theorem LogIn.kept {L : List Nat} (h : LogIn w LG TU LN Mb Cb n spares period puts m) (k : Kept L w w') (h0 : LG ∉ L) (h1 : TU ∉ L) (h2 : LN ∉ L) (h3 : Mb ∉ L) (h4 : Cb ∉ L) : LogIn w' LG TU LN Mb Cb n spares period puts m :=
  ⟨h.hG.kept k h0, h.hT.kept k h1 h2 h3 h4, h.ne, h.n16⟩
theorem LogIn.below (h : LogIn w LG TU LN Mb Cb n spares period puts m) (k : Below w.heap.size w w') : LogIn w' LG TU LN Mb Cb n spares period puts m := h.kept (below_kept k) (by simp) (by simp) (by simp) (by simp) (by simp)
theorem HomesIn.kept {L : List Nat} (h : HomesIn w B v k ln dt) (q : Kept L w w') (hL : ∀ x ∈ L, x < B) : HomesIn w' B v k ln dt := by
  refine ⟨h.sl.kept q hL, fun h0 g off c e => ?_, h.len⟩
  obtain ⟨c1, ty, ho⟩ := h.ob h0 g off c e
  rcases h.sl with ⟨ao, cap, e2, e3⟩ | ⟨g2, off2, c2, e2, h1, _, _, hB, h3⟩
  · omega
  · obtain ⟨⟨rfl, rfl⟩, rfl⟩ : (g = g2 ∧ off = off2) ∧ c = c2 := by rw [e] at e2; simpa using e2
    exact ⟨c1, ty, q.keep ho fun hg => by have := hL g hg; omega⟩
theorem HomesIn.row (h : HomesIn w B v k ln dt) (h0 : 0 < k) : ∃ g off cap, v = .slice (some ⟨g, off, none⟩) k cap ∧ k ≤ cap ∧ cap ≤ 9223372036854775807 ∧ g < w.heap.size ∧ ∀ i, i < k → rowAt (obj w g) (off + i * 9) 9 = some (homeC (ln i : Int) (dt i)) := by
  obtain ⟨g, off, cap, e, h1, h2, h3, h4⟩ := h.sl.home h.len h0
  exact ⟨g, off, cap, e, h1, h2, h3, fun i hi => h4 i hi (h.ob h0 g off cap e)⟩

set_option maxRecDepth 100000 in
set_option maxHeartbeats 6400000 in
theorem finish_in (h : LogIn w LG TU LN Mb Cb n spares period puts m) (hg : Good m n spares) (hc : m.cut = -1) (hw : m.writes + 3 * k + 1 ≤ 1000000000000) (hs : HomesIn w B v k ln dt) (hB : TU < B ∧ Mb < B ∧ Cb < B) (hk : k ≤ 14) (hr : ∀ i, i < k → ln i < n) :
    Calls Tryz.prog 128 #[.pointer (some ⟨LG, 0, none⟩), v] w fun e w' => ∃ m' p', e = .returned (.int .i64 0) ∧ LogIn w' LG TU LN Mb Cb n spares period p' m' ∧ Good m' n spares ∧ m'.cut = -1 ∧ (∀ i, i ≠ 0 → i ≠ 1 → m'.reg i = m.reg i) ∧ m'.reg 1 = 0 ∧
      m.writes ≤ m'.writes ∧ m'.writes ≤ m.writes + 3 * k + 1 ∧ (∀ y, y < n → m'.cont n y = afterN ln dt (m.cont n) k y) ∧ Kept [Mb, Cb, TU] w w' := by
  have HH := Lib.hid h
  have HG := Lib.hid hg
  have HC := Lib.hid hc
  have HW := Lib.hid hw
  have HS := Lib.hid hs
  have HB := Lib.hid hB
  have HK := Lib.hid hk
  have HR := Lib.hid hr
  obtain ⟨ao, cap, rfl⟩ := hs.sl.form
  clear h hg hc hw hs hB hk hr
  go_enter Tryz.func128, Tryz.ntmps128
  go_wp2_with fail
  go_loopw [10] (fun i wr => ∃ (j : Nat) (m' : MS) (p' : Nat), j ≤ k ∧ i = .int .i64 j ∧ LogIn wr LG TU LN Mb Cb n spares period p' m' ∧ Goes m m' n spares (3 * j) ∧ (∀ y, y < n → m'.cont n y = afterN ln dt (m.cont n) j y) ∧ Kept [Mb, Cb, TU] w wr) (fun i _ => k - (intOf i).toNat)
  case atStart => exact ⟨0, m, puts, Nat.zero_le _, rfl, HH.out, ⟨HG.out, HC.out, fun _ _ => rfl, by omega⟩, fun _ _ => rfl, Kept.refl _ _⟩
  case round =>
    obtain ⟨j, m1, p1, hj, rfl, hl, hgo, hcn, hkp⟩ := hrel
    have HL := Lib.hid hl
    have HGO := Lib.hid hgo
    have HCN := Lib.hid hcn
    have HKP := Lib.hid hkp
    by_cases hlt : j < k
    · have hltz : (j : Int) < (k : Int) := by omega
      have j0 : (0 : Int) ≤ (j : Int) := Int.natCast_nonneg j
      have wj : IntKind.i64.wrap ((j : Int) + 1) = (j : Int) + 1 := by have := HK.out; rw [IntKind.wrap_i64]; omega
      have hs1 := HS.out.kept hkp (by have := HB.out; intro x hx; simp at hx; omega)
      obtain ⟨g, off, c, e, _, _, hgs, hrow⟩ := hs1.row (by omega)
      obtain ⟨rfl, rfl⟩ : ao = some ⟨g, off, none⟩ ∧ cap = c := by simpa using e
      have hgr := hrow j hlt
      have hlen := HS.out.len j hlt
      obtain ⟨x, hx⟩ : ∃ x, ln j = x := ⟨_, rfl⟩
      obtain ⟨l, hll⟩ : ∃ l, dt j = l := ⟨_, rfl⟩
      rw [hx, hll] at hgr
      rw [hll] at hlen
      have HX := Lib.hid (And.intro hx (And.intro hll (And.intro hlt (HR.out j hlt))))
      have HLEN := Lib.hid hlen
      have hLG : obj wr LG = some (.cells #[.pointer (some ⟨Mb, 0, none⟩), .pointer (some ⟨TU, 0, none⟩)] 127 (0, 0)) := hl.hG
      have b1 := lt_of_obj hLG
      clear hl hgo hcn hkp hs1 e hrow hlt hj hx hll
      go_wp2_with fail
      have HL2 : Hid (LogIn (wr.alloc (.cells (homeC x l) 133)) LG TU LN Mb Cb n spares period p1 m1) := Lib.hid (HL.out.below ((Below.refl _ _).alloc (Nat.le_refl _) _))
      have HKP2 : Hid (Kept [Mb, Cb, TU] w (wr.alloc (.cells (homeC x l) 133))) := Lib.hid (HKP.out.alloc _)
      have HN : Hid (obj (wr.alloc (.cells (homeC x l) 133)) wr.heap.size = some (.cells (homeC x l) 133)) := Lib.hid (newA wr _)
      have HSZ : Hid (wr.heap.size < (wr.alloc (.cells (homeC x l) 133)).heap.size) := Lib.hid (by simp)
      generalize wr.alloc (.cells (homeC x l) 133) = w2 at HL2 HKP2 HN HSZ ⊢
      generalize wr.heap.size = bl at HN HSZ b1 ⊢
      have q := HN.out
      have b2 := HSZ.out
      have hLG2 : obj w2 LG = some (.cells #[.pointer (some ⟨Mb, 0, none⟩), .pointer (some ⟨TU, 0, none⟩)] 127 (0, 0)) := HL2.out.hG
      have b3 := lt_of_obj hLG2
      clear hLG b1 hgr hgs HL HKP
      refine wp_region_more_tail 8 (by kernel_rfl) (by kernel_rfl) (by kernel_rfl) ?_
      simp only [List.take_succ_cons, List.take_zero, List.drop_succ_cons, List.drop_zero]
      repeat (go_big_quiet_step ((fail)))
      refine wpQuiet_nil ?_
      intro _ hw'
      obtain ⟨y, hw''⟩ := hw'
      subst hw''
      have HL3 := Lib.hid (HL2.out.below (more_below w2 y))
      have HKP3 := Lib.hid (HKP2.out.more y)
      have KP := Lib.hid (tput_in HL3.out.hT HGO.out.good HGO.out.cut (by have := HGO.out.wr.2; have := HW.out; have := HX.out.2.2.1; omega) x (by have := HX.out.2.2.2; have := HX.out.1; omega) l HLEN.out)
      clear q b2 hLG2 b3 HL2 HKP2 HN HSZ hlen
      change wpList _ _ _ _ _ (more w2 y)
      generalize more w2 y = w3 at HL3 HKP3 KP ⊢
      go_wp2_with fail
      refine KP.out.mono ?_
      rintro _ w4 ⟨m2, p2, rfl, hT, hG2, hC2, hK2⟩
      have hLG4 := HL3.out.hG.kept hK2 (by have := HL3.out.ne; simp; omega)
      have HL4 : Hid (LogIn w4 LG TU LN Mb Cb n spares period p2 m2) := Lib.hid ⟨hLG4, hT, HL3.out.ne, HL3.out.n16⟩
      have HKP4 := Lib.hid (HKP3.out.trans hK2)
      have HG4 : Hid (Goes m m2 n spares (3 * ((j + 1 : Nat) : Int))) := Lib.hid ⟨hG2.good, hG2.cut, fun i hi => (hG2.regs i hi).trans (HGO.out.regs i hi), by have := hG2.wr; have := HGO.out.wr; omega⟩
      have HC4 : Hid (∀ y, y < n → m2.cont n y = afterN ln dt (m.cont n) (j + 1) y) := Lib.hid fun y hy => by
        rw [hC2 y hy]
        show _ = updF (afterN ln dt (m.cont n) j) (ln j) (dt j) y
        rw [HX.out.1, HX.out.2.1]
        unfold updF
        split
        · rfl
        · exact HCN.out y hy
      clear hT hG2 hC2 hK2 KP HL3 HKP3
      go_wp2_with fail
      exact ⟨⟨j + 1, m2, p2, HX.out.2.2.1, by simp, HL4.out, HG4.out, HC4.out, HKP4.out⟩, by have := HX.out.2.2.1; simp only [intOf]; omega⟩
    · have : j = k := by omega
      subst this
      have hltz : ¬ (j : Int) < (j : Int) := by omega
      have hLG : obj wr LG = some (.cells #[.pointer (some ⟨Mb, 0, none⟩), .pointer (some ⟨TU, 0, none⟩)] 127 (0, 0)) := hl.hG
      have hgo1 := hgo.good
      have KS : Calls Tryz.prog 115 #[.pointer (some ⟨Mb, 0, none⟩), .int .i64 1, .int .u64 0] wr _ := set_in hl.hT.hM hgo1.up hgo1.cut hgo1.wr 1 (by decide) 0
      rw [put_tells hgo.cut] at KS
      have KS := Lib.hid KS
      clear hj hlt hl hgo hcn hkp hgo1
      go_wp2_with fail
      refine KS.out.mono ?_
      rintro _ w4 ⟨rfl, hm, hk⟩
      have hw2 := HGO.out.wr
      obtain ⟨g1, g2, g3, g4⟩ := HGO.out.good.setR HGO.out.cut (by have := HW.out; omega) 1 0 (by decide) (Or.inl (by decide))
      have hne := HL.out.ne
      have hne2 := HL.out.hT.ne
      have HL4 : Hid (LogIn w4 LG TU LN Mb Cb n spares period p1 (m1.set 1 0)) := Lib.hid ⟨HL.out.hG.kept hk (by simp; omega), ⟨hk.keep HL.out.hT.hT (by simp; omega), HL.out.hT.hL.kept hk (by simp; omega), hm, HL.out.hT.per, HL.out.hT.pu, HL.out.hT.ne⟩, HL.out.ne, HL.out.n16⟩
      have HKP4 := Lib.hid (HKP.out.next hk (by intro x hx; left; simp at hx ⊢; omega))
      clear hm hk KS hLG hne hne2
      go_wp2
      go_ret
      refine ⟨m1.set 1 0, p1, rfl, HL4.out, g1, HGO.out.cut, fun i h0 h1 => ?_, ?_, ?_, ?_, fun y hy => ?_, HKP4.out⟩
      · rw [g2, updF_ne _ _ _ h1]; exact HGO.out.regs i h0
      · rw [g2, updF_same]
      · show m.writes ≤ m1.writes + 1; omega
      · show m1.writes + 1 ≤ _; omega
      · rw [← HCN.out y hy]; unfold MS.cont; rw [g3, g4]
end
end Go.Proofs.YtphmfaddgpjndaaGreat

/- Rows of lines: made, stored to, appended to. -/
namespace Go.Proofs.YtphmfaddgpjndaaGreat
open Go.ChangeShapes Go.WideShapes Go.RowKit Go.Maps

/-- the cells of N lines -/
def linesC (f : Nat → Int) (N : Nat) : List Value := (List.range (N * 8)).map fun t => .int .u64 (f t)
/-- N lines that the call has made -/
def RowsOwn (w : World) (base : Nat) (v : Value) (N : Nat) (f : Nat → Int) : Prop := w.ownsRow base 91 8 v N (linesC f N)
theorem linesC_len (f : Nat → Int) (N : Nat) : (linesC f N).length = N * 8 := by simp [linesC]
theorem linesC_get (f : Nat → Int) (N t : Nat) (h : t < N * 8) : (linesC f N)[t]? = some (.int .u64 (f t)) := by simp [linesC, h]
theorem linesC_set (f : Nat → Int) (N p : Nat) (x : Int) : (linesC f N).set p (.int .u64 x) = linesC (updF f p x) N := by
  apply List.ext_getElem?
  intro t
  by_cases ht : t < N * 8
  · rw [linesC_get _ _ _ ht, List.getElem?_set, linesC_get _ _ _ ht]
    by_cases e : p = t
    · subst e; rw [if_pos rfl, if_pos (by rw [linesC_len]; exact ht), updF_same]
    · rw [if_neg e, updF_ne _ _ _ (Ne.symm e)]
  · rw [List.getElem?_eq_none (by rw [List.length_set, linesC_len]; omega), List.getElem?_eq_none (by rw [linesC_len]; omega)]
/-- a line more -/
def moreF (f : Nat → Int) (N : Nat) (l : List Int) : Nat → Int := fun t => if t < N * 8 then f t else wd l (t - N * 8)
theorem linesC_more (f : Nat → Int) (N : Nat) (l : List Int) (hl : l.length = 8) : linesC f N ++ l.map (.int .u64 ·) = linesC (moreF f N l) (N + 1) := by
  apply List.ext_getElem?
  intro t
  by_cases ht : t < N * 8
  · rw [List.getElem?_append_left (by rw [linesC_len]; exact ht), linesC_get _ _ _ ht, linesC_get _ _ _ (by omega)]
    unfold moreF; rw [if_pos ht]
  · rw [List.getElem?_append_right (by rw [linesC_len]; omega), linesC_len]
    by_cases h2 : t < (N + 1) * 8
    · rw [linesC_get _ _ _ h2, List.getElem?_map, List.getElem?_eq_getElem (by omega)]
      unfold moreF; rw [if_neg ht, wd_get _ _ (by omega)]; rfl
    · rw [List.getElem?_eq_none (by simp; omega), List.getElem?_eq_none (by rw [linesC_len]; omega)]
/-- a line of them -/
def lineOf (f : Nat → Int) (i : Nat) : List Int := (List.range 8).map fun t => f (i * 8 + t)
theorem lineOf_len (f : Nat → Int) (i : Nat) : (lineOf f i).length = 8 := by simp [lineOf]
section
variable {w w' : World} {base N : Nat} {v : Value} {f : Nat → Int}
theorem RowsOwn.form (h : RowsOwn w base v N f) (h0 : 0 < N) : ∃ g cap, v = .slice (some ⟨g, 0, none⟩) N cap ∧ base ≤ g ∧ g < w.heap.size ∧ N ≤ cap ∧ cap ≤ 9223372036854775807 ∧ (∀ t, t < N * 8 → cellAt (obj w g) t = some (.int .u64 (f t))) ∧ (∀ t, iceAt (obj w g) t = false) ∧ ∃ c ty, obj w g = some (.cells c ty (0, 0)) := by
  rcases h.2 with ⟨_, e⟩ | ⟨g, cap, cur, hv, hb, hg, hnc, hcm, hcs, htake⟩
  · omega
  · have hg' : obj w g = some (.cells cur 91 (0, 0)) := hg
    refine ⟨g, cap, hv, hb, lt_of_obj hg', hnc, by unfold maxLen at hcm; omega, fun t ht => ?_, fun t => by rw [hg']; exact iceAt_some .., _, _, hg'⟩
    rw [hg', cellAt_some]
    have h1 := linesC_get f N t ht
    rw [← htake, List.getElem?_take, if_pos ht] at h1
    unfold nth
    rw [← Array.getElem?_toList]; exact h1
theorem RowsOwn.row (h : RowsOwn w base v N f) (h0 : 0 < N) : ∃ g cap, v = .slice (some ⟨g, 0, none⟩) N cap ∧ base ≤ g ∧ g < w.heap.size ∧ N ≤ cap ∧ cap ≤ 9223372036854775807 ∧ ∀ i, i < N → rowAt (obj w g) (i * 8) 8 = some (cs (lineOf f i)) := by
  obtain ⟨g, cap, hv, hb, hs, h1, h2, h3, _, hob⟩ := h.form h0
  refine ⟨g, cap, hv, hb, hs, h1, h2, fun i hi => ?_⟩
  refine rowAt_of (by rw [cs_size, lineOf_len]) (by decide) (fun t ht => ?_) hob
  rw [h3 _ (by omega), cs_get _ _ (by rw [lineOf_len]; exact ht)]
  simp [wd, lineOf, ht]
theorem RowsOwn.stored {g cap : Nat} (h : RowsOwn w base (.slice (some ⟨g, 0, none⟩) N cap) N f) (p : Nat) (x : Int) : RowsOwn (w.setCell ⟨g, p, none⟩ (.int .u64 x)) base (.slice (some ⟨g, 0, none⟩) N cap) N (updF f p x) := by
  have := (World.ownsRow.stored h p (.int .u64 x)).1
  rw [linesC_set] at this
  exact this
theorem RowsOwn.below (h : RowsOwn w base v N f) (k : Below w.heap.size w w') : RowsOwn w' base v N f := by
  obtain ⟨h1, h2⟩ := h
  refine ⟨h1, ?_⟩
  rcases h2 with h2 | ⟨g, cap, cur, hv, hb, hg, h3⟩
  · exact Or.inl h2
  · exact Or.inr ⟨g, cap, cur, hv, hb, keep k hg, h3⟩
theorem RowsOwn.kept {L : List Nat} (h : RowsOwn w base v N f) (k : Kept L w w') (hL : ∀ x ∈ L, x < base) : RowsOwn w' base v N f := by
  obtain ⟨h1, h2⟩ := h
  refine ⟨h1, ?_⟩
  rcases h2 with h2 | ⟨g, cap, cur, hv, hb, hg, h3⟩
  · exact Or.inl h2
  · exact Or.inr ⟨g, cap, cur, hv, hb, k.keep hg (fun hx => by have := hL g hx; omega), h3⟩
end
def zLine : Value := .agg #[.int .u64 0, .int .u64 0, .int .u64 0, .int .u64 0, .int .u64 0, .int .u64 0, .int .u64 0, .int .u64 0]
theorem info91 : (Tryz.prog.info? 91).map (fun i => (i.zero, i.size, i.bytes)) = some (some zLine, 8, 64) := by kernel_rfl
/-- rows as make makes them -/
theorem make_rows (N : Nat) (w : World) (hN : N ≤ 16) : ∃ w', (Instr.makeSlice 196 (.int .i64 (N : Int)) (.int .i64 16)).run Tryz.prog w = .ok (.slice (some ⟨w.heap.size, 0, none⟩) N 16) w' ∧
    RowsOwn w' w.heap.size (.slice (some ⟨w.heap.size, 0, none⟩) N 16) N (fun _ => 0) ∧ Below w.heap.size w w' ∧ w.heap.size < w'.heap.size := by
  obtain ⟨i0, hi0, hz0, hz1, hz2⟩ := info_parts' info91
  have h := run_make (P := Tryz.prog) w 196 91 i0 zLine Tryz.underlying196 hi0 hz0 .i64 .i64 N 16 (Int.natCast_nonneg _) (by omega) (by rw [hz2]; decide) (by decide)
  rw [Int.toNat_natCast, hz1] at h
  refine ⟨_, h, ⟨by rw [linesC_len], Or.inr ⟨w.heap.size, 16, _, rfl, Nat.le_refl _, newA w _, hN, by unfold maxLen; decide, by simp [madeCells], ?_⟩⟩, (Below.refl _ _).alloc (Nat.le_refl _) _, by simp⟩
  apply List.ext_getElem?
  intro t
  by_cases ht : t < N * 8
  · rw [linesC_get _ _ _ ht, List.getElem?_take, if_pos ht]
    unfold madeCells
    rw [Array.getElem?_toList]
    simp only [Array.getElem?_map, Array.getElem?_range]
    have h3 : t < Int.toNat 16 * 8 := by show t < 16 * 8; omega
    rw [if_pos h3]
    have : t % 8 = 0 ∨ t % 8 = 1 ∨ t % 8 = 2 ∨ t % 8 = 3 ∨ t % 8 = 4 ∨ t % 8 = 5 ∨ t % 8 = 6 ∨ t % 8 = 7 := by omega
    show some (zLine.cells[t % 8]!) = _
    rcases this with e | e | e | e | e | e | e | e <;> rw [e] <;> rfl
  · rw [List.getElem?_eq_none (by simp; omega), List.getElem?_eq_none (by rw [linesC_len]; omega)]
end Go.Proofs.YtphmfaddgpjndaaGreat

/- log.Commit. (Printed by wip/d/genV.py.) -/
namespace Go.Proofs.YtphmfaddgpjndaaGreat
open Go.ChangeShapes Go.WideShapes Go.RowKit Go.Maps

theorem afterN_congr {ln : Nat → Nat} {dt : Nat → List Int} {f f' : Nat → List Int} {y : Nat} (h : f y = f' y) : ∀ k, afterN ln dt f k y = afterN ln dt f' k y
  | 0 => h
  | k + 1 => by
    show updF (afterN ln dt f k) (ln k) (dt k) y = updF (afterN ln dt f' k) (ln k) (dt k) y
    unfold updF
    split
    · rfl
    · exact afterN_congr h k
theorem grown_own {w wA : World} {base N : Nat} {e : TypeId} {size : Nat} {v : Value} {xs : List Value} {w0 : World} {o : Obj} (hb : Below base w0 w) (hs : base ≤ w.heap.size) (h : w.ownsRow base e size v N xs) (hg : (w.alloc o).grownBy wA v.ownBlock) : Below base w0 wA := below_own hb hs h hg
/-- eight words laid over eight others -/
theorem fold_words (b0 b1 b2 b3 b4 b5 b6 b7 : Value) (l : List Int) (h : l.length = 8) : Array.foldl (fun cs x => cs.setIfInBounds x.snd x.fst) #[b0, b1, b2, b3, b4, b5, b6, b7] (cs l).zipIdx 0 8 = cs l :=
  match l, h with
  | [a, b, c, d, e, f, g, i], _ => by simp [cs, List.zipIdx]
theorem news_line {w : World} {H : Nat} {c : Array Value} (hH : w.heap.size = H) (l : List Int) (hc : c = cs l) : ∀ j u, (l.map (Value.int .u64 ·))[j]? = some u → (w.alloc (.cells c 91)).cell? ((⟨H, 0, none⟩ : Addr).add j) = some u := by
  subst hH hc
  exact news_new w (l.map (Value.int .u64 ·)) 91
section
variable {w w' : World} {B k LG TU LN Mb Cb n spares period puts : Nat} {m : MS} {v : Value} {ln : Nat → Nat} {dt : Nat → List Int}
set_option maxRecDepth 100000 in
set_option maxHeartbeats 12800000 in
theorem commit_in (h : LogIn w LG TU LN Mb Cb n spares period puts m) (hg : Good m n spares) (hc : m.cut = -1) (hw : m.writes + 100 ≤ 1000000000000) (h0 : m.reg 1 = 0) (hs : HomesIn w B v k ln dt) (hB : TU < B ∧ Mb < B ∧ Cb < B) (hk : 1 ≤ k ∧ k ≤ 14)
    (hr : ∀ i, i < k → 16 ≤ ln i ∧ ln i < n) (hd : ∀ i j, i < j → j < k → ln i ≠ ln j) :
    Calls Tryz.prog 138 #[.pointer (some ⟨LG, 0, none⟩), v] w fun e w' => ∃ m' p', e = .returned (.int .i64 0) ∧ LogIn w' LG TU LN Mb Cb n spares period p' m' ∧ Goes m m' n spares 100 ∧
      (∀ y, 16 ≤ y → y < n → m'.cont n y = afterN ln dt (m.cont n) k y) ∧ Kept [Mb, Cb, TU] w w' := by
  obtain ⟨i0, hi0, hz0, hz1, hz2⟩ := info_parts' info91
  have K1 := Lib.hid (tlines_in h.hT.hT)
  have K2 := Lib.hid (gmay_in n (fun i => (ln i : Int)) dt hs.sl (fun g off c e => hs.ob (by omega) g off c e) hs.len hk (by have := hg.n1.2; omega) (fun i hi => by have := hr i hi; omega) (fun i j h1 h2 h3 => hd i j h1 h2 (by omega)))
  have HH := Lib.hid h
  have HG := Lib.hid hg
  have HC := Lib.hid hc
  have HW := Lib.hid hw
  have H0 := Lib.hid h0
  have HS := Lib.hid hs
  have HB := Lib.hid hB
  have HK := Lib.hid hk
  have HR := Lib.hid hr
  have hLG : obj w LG = some (.cells #[.pointer (some ⟨Mb, 0, none⟩), .pointer (some ⟨TU, 0, none⟩)] 127 (0, 0)) := h.hG
  obtain ⟨ao, cap, rfl⟩ := hs.sl.form
  obtain ⟨N0, hN0⟩ : ∃ N0, (k + 7) / 8 = N0 := ⟨_, rfl⟩
  have HN0 := Lib.hid hN0
  have hkk := hk
  clear h hg hc hw h0 hs hB hk hr hd
  go_enter Tryz.func138, Tryz.ntmps138
  go_wp2_with fail
  refine K1.out.mono ?_
  rintro _ _ ⟨rfl, rfl⟩
  go_wp2_with fail
  refine K2.out.mono ?_
  rintro _ w1 ⟨rfl, hb⟩
  have HH1 := Lib.hid (HH.out.below hb)
  have HS1 := Lib.hid (HS.out.kept (below_kept hb) (by simp))
  have HB1 := Lib.hid hb
  have KD := down_in HH1.out.hT.hM
  rw [HG.out.up] at KD
  have KD := Lib.hid KD
  have KP := Lib.hid (pending_in HH1.out.hG HH1.out.hT.hM HG.out.up H0.out)
  have hLG1 : obj w1 LG = some (.cells #[.pointer (some ⟨Mb, 0, none⟩), .pointer (some ⟨TU, 0, none⟩)] 127 (0, 0)) := HH1.out.hG
  clear hb K1 K2 hLG
  go_wp2_with fail
  refine KD.out.mono ?_
  rintro _ _ ⟨rfl, rfl⟩
  go_wp2_with fail
  refine KP.out.mono ?_
  rintro _ _ ⟨rfl, rfl⟩
  have KI := index_any k (by omega) w1
  rw [hN0] at KI
  have KI := Lib.hid KI
  clear KD KP hLG1
  go_wp2_with fail
  refine KI.out.mono ?_
  rintro _ _ ⟨rfl, rfl⟩
  obtain ⟨w2, hmk, hro, hbm, hsz⟩ := make_rows N0 w1 (by omega)
  have HN1 := Lib.hid (show 1 ≤ N0 ∧ N0 ≤ 2 by omega)
  have HS2 := Lib.hid (HS1.out.kept (below_kept hbm) (by simp))
  have HB2 := Lib.hid hbm
  have HRO := Lib.hid hro
  clear KI hro hbm hsz hkk hN0
  go_wp2_with fail
  go_loopw [40, 5] (fun i s wr => ∃ (j : Nat) (f : Nat → Int), j ≤ k ∧ i = .int .i64 j ∧ RowsOwn wr w1.heap.size s (N0 + j) f ∧ Below w1.heap.size w1 wr) (fun i _ _ => k - (intOf i).toNat)
  case atStart => exact ⟨0, fun _ => 0, Nat.zero_le _, rfl, HRO.out, HB2.out⟩
  case round =>
    obtain ⟨j, f, hj, rfl, hro, hbr⟩ := hrel
    by_cases hlt : j < k
    · have hltz : (j : Int) < (k : Int) := by omega
      have j0 : (0 : Int) ≤ (j : Int) := Int.natCast_nonneg j
      have wj : IntKind.i64.wrap ((j : Int) + 1) = (j : Int) + 1 := by have := HK.out; rw [IntKind.wrap_i64]; omega
      obtain ⟨g, off, c, e, _, _, hgs, hrow⟩ := (HS1.out.kept (below_kept hbr) (by simp)).row (by omega)
      obtain ⟨rfl, rfl⟩ : ao = some ⟨g, off, none⟩ ∧ cap = c := by simpa using e
      have hgr := hrow j hlt
      have hlen := HS.out.len j hlt
      obtain ⟨x, hx⟩ : ∃ x, ln j = x := ⟨_, rfl⟩
      obtain ⟨l, hll⟩ : ∃ l, dt j = l := ⟨_, rfl⟩
      rw [hx, hll] at hgr
      rw [hll] at hlen
      have hxb : x < 1000 := by have := HR.out j hlt; have := HG.out.n1; omega
      have wx : IntKind.u64.wrap (x : Int) = (x : Int) := by rw [IntKind.wrap_u64]; omega
      obtain ⟨gr, capr, hv, hgb, hgl, hNc, hcm, hcell, hice, _⟩ := hro.form (by have := HN1.out; omega)
      subst hv
      have e8 : j / 8 * 8 + j % 8 = j := by omega
      have e9 : j / 8 < N0 + j := by have := HN1.out; omega
      have hc1 := hcell (j / 8 * 8 + j % 8) (by have := HN1.out; omega)
      have hi1 := hice (j / 8 * 8 + j % 8)
      have HGB := Lib.hid hgb
      have HRo := Lib.hid hro
      have HBr := Lib.hid hbr
      have HLT := Lib.hid hlt
      have HLEN := Lib.hid hlen
      clear hro hbr e hrow hlt hj hx hll hxb hcell hice hNc hgb hcm e8
      go_wp2_with fail
      have HN : Hid (obj (wr.alloc (.cells (homeC x l) 133)) wr.heap.size = some (.cells (homeC x l) 133)) := Lib.hid (newA wr _)
      have HSZ : Hid (wr.heap.size < (wr.alloc (.cells (homeC x l) 133)).heap.size) := Lib.hid (by simp)
      have HBA : Hid (Below w1.heap.size w1 (wr.alloc (.cells (homeC x l) 133))) := Lib.hid (HBr.out.alloc HBr.out.size _)
      have HRA : Hid (RowsOwn (wr.alloc (.cells (homeC x l) 133)) w1.heap.size (.slice (some ⟨gr, 0, none⟩) (N0 + j) capr) (N0 + j) f) := Lib.hid (HRo.out.below ((Below.refl _ _).alloc (Nat.le_refl _) _))
      have hc2 : cellAt (obj (wr.alloc (.cells (homeC x l) 133)) gr) (j / 8 * 8 + j % 8) = some (.int .u64 (f (j / 8 * 8 + j % 8))) := by rw [obj_alloc_past wr _ gr hgl]; exact hc1
      have hi2 : iceAt (obj (wr.alloc (.cells (homeC x l) 133)) gr) (j / 8 * 8 + j % 8) = false := by rw [obj_alloc_past wr _ gr hgl]; exact hi1
      have HNE : Hid (wr.heap.size ≠ gr) := Lib.hid (by omega)
      have HW1 : Hid (w1.heap.size ≤ wr.heap.size) := Lib.hid HBr.out.size
      generalize wr.alloc (.cells (homeC x l) 133) = wA at HN HSZ HBA HRA hc2 hi2 ⊢
      generalize wr.heap.size = bl at HN HSZ HNE HW1 ⊢
      clear hc1 hi1 hgl hgr hgs HRo HBr
      have q := HN.out
      have b2 := HSZ.out
      have b3 := lt_of_cell hc2
      refine wp_region_more_tail 10 (by kernel_rfl) (by kernel_rfl) (by kernel_rfl) ?_
      simp only [List.take_succ_cons, List.take_zero, List.drop_succ_cons, List.drop_zero]
      repeat (go_big_quiet_step ((fail)))
      refine wpQuiet_nil ?_
      intro _ hw'
      obtain ⟨y, hw''⟩ := hw'
      subst hw''
      have HN3 : Hid (obj (more wA y) bl = some (.cells (homeC x l) 133)) := Lib.hid (keep (more_below wA y) HN.out)
      have HB3 := Lib.hid (HBA.out.trans ((more_below wA y).mono HBA.out.size))
      have HR3 := Lib.hid (HRA.out.below (more_below wA y))
      have hc3 : cellAt (obj (more wA y) gr) (j / 8 * 8 + j % 8) = some (.int .u64 (f (j / 8 * 8 + j % 8))) := by rw [obj_below (more_below wA y) b3]; exact hc2
      have hi3 : iceAt (obj (more wA y) gr) (j / 8 * 8 + j % 8) = false := by rw [obj_below (more_below wA y) b3]; exact hi2
      clear q b2 b3 hc2 hi2 HN HSZ HBA HRA
      change wpList _ _ _ _ _ (more wA y)
      generalize more wA y = wB at HN3 HB3 HR3 hc3 hi3 ⊢
      have HN4 : Hid (obj (wB.setCell ⟨gr, j / 8 * 8 + j % 8, none⟩ (.int .u64 x)) bl = some (.cells (homeC x l) 133)) := Lib.hid ((obj_setCell_ne _ _ _ _ HNE.out).trans HN3.out)
      have HB4 : Hid (Below w1.heap.size w1 (wB.setCell ⟨gr, j / 8 * 8 + j % 8, none⟩ (.int .u64 x))) := Lib.hid (HB3.out.setCell (p := ⟨gr, j / 8 * 8 + j % 8, none⟩) HGB.out _)
      have HR4 : Hid ((wB.setCell ⟨gr, j / 8 * 8 + j % 8, none⟩ (.int .u64 x)).ownsRow w1.heap.size 91 8 (.slice (some ⟨gr, 0, none⟩) (N0 + j) capr) (N0 + j) (linesC (updF f (j / 8 * 8 + j % 8) x) (N0 + j))) := Lib.hid (HR3.out.stored (j / 8 * 8 + j % 8) x)
      have q4 := HN4.out
      have hq5 : obj wB bl = some (.cells (homeC x l) 133) := HN3.out
      have hne5 := HNE.out
      have SP4 := Lib.hid HB4.out.size
      go_wp2_with (at_builtin; refine wpList_append_lies _ rfl (.tmp 55) (.tmp 58) 196 rfl w1.heap.size 91 i0 _ 8 64 Tryz.underlying196 hi0 hz0 hz1 hz2 rfl (by decide) _ (N0 + j) _ rfl (HR4.out.alloc _) ⟨wB.heap.size, 0, none⟩ 1 1 (l.map (.int .u64 ·)) rfl (by simp; exact HLEN.out) (news_line (by simp) l (fold_words _ _ _ _ _ _ _ _ l HLEN.out)) (by simp [Value.oneCell']) (by decide) (by have := HLT.out; have := HK.out; have := HN1.out; unfold maxLen; omega) (by have := HLT.out; have := HK.out; have := HN1.out; omega) (by have := SP4.out; simp at this ⊢; omega) (wB.heap.size + 1) (by simp) ?_; intro gA capA wA2 hownA hgrowA hatA hltA)
      refine ⟨⟨j + 1, moreF (updF f (j / 8 * 8 + j % 8) x) (N0 + j) l, HLT.out, by simp, ?_, below_own HB4.out HB4.out.size HR4.out hgrowA⟩, by have := HLT.out; simp only [intOf]; omega⟩
      show World.ownsRow _ _ _ _ _ _ _
      rw [show N0 + (j + 1) = N0 + j + 1 by omega, ← linesC_more _ _ _ HLEN.out]
      exact hownA
    · have : j = k := by omega
      subst this
      have hltz : ¬ (j : Int) < (j : Int) := by omega
      obtain ⟨N, hN⟩ : ∃ N, N0 + j = N := ⟨_, rfl⟩
      rw [hN] at hro
      have HNN := Lib.hid (show 1 ≤ N ∧ N ≤ 16 by have := HN1.out; have := HK.out; omega)
      obtain ⟨gr, capr, hv, hgb, hgl, hNc, hcm, hrow⟩ := hro.row (by have := HNN.out; omega)
      subst hv
      have HRo := Lib.hid hro
      have HBr := Lib.hid hbr
      have HGB := Lib.hid hgb
      have HCM := Lib.hid (And.intro hNc hcm)
      have HL1 := Lib.hid (HH1.out.below (show Below w1.heap.size w1 wr from hbr))
      have HS3 := Lib.hid (HS1.out.kept (below_kept hbr) (by simp))
      have HLT1 := Lib.hid (show TU < w1.heap.size ∧ Mb < w1.heap.size ∧ Cb < w1.heap.size from ⟨lt_of_obj HH1.out.hT.hT, HH1.out.hT.hM.hM.lt, HH1.out.hT.hM.hL.lt⟩)
      clear hro hbr hgb hgl hNc hcm hrow hj hlt hN HRO HB2
      go_wp2_with fail
      generalize wr = wS at HRo HBr HL1 HS3 ⊢
      go_loopw [63] (fun i wq => ∃ (t : Nat) (m1 : MS) (p1 : Nat), t ≤ N ∧ i = .int .i64 t ∧ LogIn wq LG TU LN Mb Cb n spares period p1 m1 ∧ Goes m m1 n spares (3 * t) ∧ (∀ y, 16 ≤ y → y < n → m1.cont n y = m.cont n y) ∧ Kept [Mb, Cb, TU] wS wq) (fun i _ => N - (intOf i).toNat)
      case atStart => exact ⟨0, m, puts, Nat.zero_le _, rfl, HL1.out, ⟨HG.out, HC.out, fun _ _ => rfl, by omega⟩, fun _ _ _ => rfl, Kept.refl _ _⟩
      case round =>
        obtain ⟨t, m1, p1, ht, rfl, hl, hgo, hcn, hkp⟩ := hrel
        have HL := Lib.hid hl
        have HGO := Lib.hid hgo
        have HCN := Lib.hid hcn
        have HKP := Lib.hid hkp
        by_cases hlt : t < N
        · have hltz : (t : Int) < (N : Int) := by omega
          have t0 : (0 : Int) ≤ (t : Int) := Int.natCast_nonneg t
          have wt : IntKind.i64.wrap ((t : Int) + 1) = (t : Int) + 1 := by have := HNN.out; rw [IntKind.wrap_i64]; omega
          obtain ⟨g2, cap2, hv2, _, hgl, _, _, hrow⟩ := (HRo.out.kept hkp (by have := HLT1.out; intro x hx; simp at hx; omega)).row (by have := HNN.out; omega)
          obtain ⟨rfl, rfl⟩ : gr = g2 ∧ capr = cap2 := by simpa using hv2
          have hgr := hrow t hlt
          obtain ⟨l, hll⟩ : ∃ l, lineOf f t = l := ⟨_, rfl⟩
          rw [hll] at hgr
          have hlen : l.length = 8 := by rw [← hll]; exact lineOf_len f t
          have HLEN := Lib.hid hlen
          have HLT := Lib.hid hlt
          clear hl hgo hcn hkp hrow hlt ht hll hv2
          go_wp2_with fail
          have HL2 : Hid (LogIn (wr.alloc (.cells (cs l) 91)) LG TU LN Mb Cb n spares period p1 m1) := Lib.hid (HL.out.below ((Below.refl _ _).alloc (Nat.le_refl _) _))
          have HKP2 : Hid (Kept [Mb, Cb, TU] wS (wr.alloc (.cells (cs l) 91))) := Lib.hid (HKP.out.alloc _)
          have HN : Hid (obj (wr.alloc (.cells (cs l) 91)) wr.heap.size = some (.cells (cs l) 91)) := Lib.hid (newA wr _)
          have HSZ : Hid (wr.heap.size < (wr.alloc (.cells (cs l) 91)).heap.size) := Lib.hid (by simp)
          generalize wr.alloc (.cells (cs l) 91) = w2' at HL2 HKP2 HN HSZ ⊢
          generalize wr.heap.size = bl at HN HSZ hgl ⊢
          have q := HN.out
          have b2 := HSZ.out
          have hLG2 : obj w2' LG = some (.cells #[.pointer (some ⟨Mb, 0, none⟩), .pointer (some ⟨TU, 0, none⟩)] 127 (0, 0)) := HL2.out.hG
          have b3 := lt_of_obj hLG2
          clear hgr hgl HL HKP
          refine wp_region_more_tail 6 (by kernel_rfl) (by kernel_rfl) (by kernel_rfl) ?_
          simp only [List.take_succ_cons, List.take_zero, List.drop_succ_cons, List.drop_zero]
          repeat (go_big_quiet_step ((fail)))
          refine wpQuiet_nil ?_
          intro _ hw'
          obtain ⟨y, hw''⟩ := hw'
          subst hw''
          have HL3 := Lib.hid (HL2.out.below (more_below w2' y))
          have HKP3 := Lib.hid (HKP2.out.more y)
          have KP := Lib.hid (tput_in HL3.out.hT HGO.out.good HGO.out.cut (by have := HGO.out.wr.2; have := HW.out; have := HLT.out; have := HNN.out; omega) t (by have := HL3.out.n16; have := HLT.out; have := HNN.out; omega) l HLEN.out)
          clear q b2 hLG2 b3 HL2 HKP2 HN HSZ hlen
          change wpList _ _ _ _ _ (more w2' y)
          generalize more w2' y = w3 at HL3 HKP3 KP ⊢
          go_wp2_with fail
          refine KP.out.mono ?_
          rintro _ w4 ⟨m2, p2, rfl, hT, hG2, hC2, hK2⟩
          have hLG4 := HL3.out.hG.kept hK2 (by have := HL3.out.ne; simp; omega)
          have HL4 : Hid (LogIn w4 LG TU LN Mb Cb n spares period p2 m2) := Lib.hid ⟨hLG4, hT, HL3.out.ne, HL3.out.n16⟩
          have HKP4 := Lib.hid (HKP3.out.trans hK2)
          have HG4 : Hid (Goes m m2 n spares (3 * ((t + 1 : Nat) : Int))) := Lib.hid ⟨hG2.good, hG2.cut, fun i hi => (hG2.regs i hi).trans (HGO.out.regs i hi), by have := hG2.wr; have := HGO.out.wr; omega⟩
          have HC4 : Hid (∀ y, 16 ≤ y → y < n → m2.cont n y = m.cont n y) := Lib.hid fun y hy1 hy => by
            rw [hC2 y hy, updF_ne _ _ _ (by have := HLT.out; have := HNN.out; omega)]
            exact HCN.out y hy1 hy
          clear hT hG2 hC2 hK2 KP HL3 HKP3
          go_wp2_with fail
          exact ⟨⟨t + 1, m2, p2, HLT.out, by simp, HL4.out, HG4.out, HC4.out, HKP4.out⟩, by have := HLT.out; simp only [intOf]; omega⟩
        · have : t = N := by omega
          subst this
          have hltz : ¬ (t : Int) < (t : Int) := by omega
          have hLG2 : obj wr LG = some (.cells #[.pointer (some ⟨Mb, 0, none⟩), .pointer (some ⟨TU, 0, none⟩)] 127 (0, 0)) := hl.hG
          have hgo1 := hgo.good
          have wk : IntKind.u64.wrap (j : Int) = (j : Int) := by have := HK.out; rw [IntKind.wrap_u64]; omega
          have KS : Calls Tryz.prog 115 #[.pointer (some ⟨Mb, 0, none⟩), .int .i64 1, .int .u64 j] wr _ := set_in hl.hT.hM hgo1.up hgo1.cut hgo1.wr 1 (by decide) j
          rw [put_tells hgo.cut] at KS
          have KS := Lib.hid KS
          clear ht hlt hl hgo hcn hkp hgo1
          go_wp2_with fail
          refine KS.out.mono ?_
          rintro _ w4 ⟨rfl, hm, hk⟩
          have hw2 := HGO.out.wr
          obtain ⟨g1, g2, g3, g4⟩ := HGO.out.good.setR HGO.out.cut (by have := HW.out; have := HNN.out; omega) 1 (j : Int) (by decide) (Or.inl (by decide))
          have hne := HL.out.ne
          have hne2 := HL.out.hT.ne
          have hl4 : LogIn w4 LG TU LN Mb Cb n spares period p1 (m1.set 1 j) := ⟨HL.out.hG.kept hk (by simp; omega), ⟨hk.keep HL.out.hT.hT (by simp; omega), HL.out.hT.hL.kept hk (by simp; omega), hm, HL.out.hT.per, HL.out.hT.pu, HL.out.hT.ne⟩, HL.out.ne, HL.out.n16⟩
          have HKP4 := Lib.hid (HKP.out.next hk (by intro x hx; left; simp at hx ⊢; omega))
          have hs4 := HS3.out.kept HKP4.out (by have := HB.out; intro x hx; simp at hx; omega)
          have KF := Lib.hid (finish_in hl4 g1 HGO.out.cut (by show m1.writes + 1 + 3 * (j : Int) + 1 ≤ _; have := HW.out; have := HNN.out; have := HK.out; omega) hs4 HB.out HK.out.2 (fun i hi => (HR.out i hi).2))
          have HG1 := Lib.hid (And.intro g2 (And.intro g3 g4))
          clear hm hk KS hLG2 hne hne2 hl4 hs4 g1 g2 g3 g4
          go_wp2_with fail
          refine KF.out.mono ?_
          rintro _ w5 ⟨m5, p5, rfl, hl5, hg5, hc5, hr5, hr1, hw5, hw6, hcn5, hk5⟩
          have HL5 := Lib.hid hl5
          have HK5 := Lib.hid (((Kept.of_below (L := [Mb, Cb, TU]) (HB1.out.trans (HBr.out.mono HB1.out.size))).trans HKP4.out).trans hk5)
          clear KF hl5 hk5
          go_wp2
          go_ret
          refine ⟨m5, p5, rfl, HL5.out, ⟨hg5, hc5, fun i hi => ?_, ?_⟩, fun y hy1 hy => ?_, HK5.out⟩
          · by_cases h1 : i = 1
            · subst h1; rw [hr1, H0.out]
            · rw [hr5 i hi h1, HG1.out.1, updF_ne _ _ _ h1]; exact HGO.out.regs i hi
          · have e : (m1.set 1 (j : Int)).writes = m1.writes + 1 := rfl
            rw [e] at hw5 hw6
            have := HNN.out; have := HK.out
            omega
          · rw [hcn5 y hy]
            refine afterN_congr ?_ j
            rw [← HCN.out y hy1 hy]
            unfold MS.cont
            rw [HG1.out.2.1, HG1.out.2.2]
set_option maxRecDepth 100000 in
set_option maxHeartbeats 12800000 in
theorem commit_cut (h : LogIn w LG TU LN Mb Cb n spares period puts m) (hg : Good m n spares) (hc : m.cut = 0) (hmk : m.mask = 0) (hw : m.writes + 1 ≤ 1000000000000) (h0 : m.reg 1 = 0) (hs : HomesIn w B v k ln dt) (hB : TU < B ∧ Mb < B ∧ Cb < B) (hk : 1 ≤ k ∧ k ≤ 14)
    (hr : ∀ i, i < k → 16 ≤ ln i ∧ ln i < n) (hd : ∀ i j, i < j → j < k → ln i ≠ ln j) :
    Calls Tryz.prog 138 #[.pointer (some ⟨LG, 0, none⟩), v] w fun e w' => ∃ m', e = .returned (.int .i64 2) ∧ MemAt w' Mb Cb m' ∧ Cutted m m' ∧ Kept [Mb, Cb, TU] w w' := by
  obtain ⟨i0, hi0, hz0, hz1, hz2⟩ := info_parts' info91
  have K1 := Lib.hid (tlines_in h.hT.hT)
  have K2 := Lib.hid (gmay_in n (fun i => (ln i : Int)) dt hs.sl (fun g off c e => hs.ob (by omega) g off c e) hs.len hk (by have := hg.n1.2; omega) (fun i hi => by have := hr i hi; omega) (fun i j h1 h2 h3 => hd i j h1 h2 (by omega)))
  have HH := Lib.hid h
  have HG := Lib.hid hg
  have HC := Lib.hid hc
  have HMK := Lib.hid hmk
  have HW := Lib.hid hw
  have H0 := Lib.hid h0
  have HS := Lib.hid hs
  have HB := Lib.hid hB
  have HK := Lib.hid hk
  have HR := Lib.hid hr
  have hLG : obj w LG = some (.cells #[.pointer (some ⟨Mb, 0, none⟩), .pointer (some ⟨TU, 0, none⟩)] 127 (0, 0)) := h.hG
  obtain ⟨ao, cap, rfl⟩ := hs.sl.form
  obtain ⟨N0, hN0⟩ : ∃ N0, (k + 7) / 8 = N0 := ⟨_, rfl⟩
  have HN0 := Lib.hid hN0
  have hkk := hk
  clear h hg hc hmk hw h0 hs hB hk hr hd
  go_enter Tryz.func138, Tryz.ntmps138
  go_wp2_with fail
  refine K1.out.mono ?_
  rintro _ _ ⟨rfl, rfl⟩
  go_wp2_with fail
  refine K2.out.mono ?_
  rintro _ w1 ⟨rfl, hb⟩
  have HH1 := Lib.hid (HH.out.below hb)
  have HS1 := Lib.hid (HS.out.kept (below_kept hb) (by simp))
  have HB1 := Lib.hid hb
  have KD := down_in HH1.out.hT.hM
  rw [HG.out.up] at KD
  have KD := Lib.hid KD
  have KP := Lib.hid (pending_in HH1.out.hG HH1.out.hT.hM HG.out.up H0.out)
  have hLG1 : obj w1 LG = some (.cells #[.pointer (some ⟨Mb, 0, none⟩), .pointer (some ⟨TU, 0, none⟩)] 127 (0, 0)) := HH1.out.hG
  clear hb K1 K2 hLG
  go_wp2_with fail
  refine KD.out.mono ?_
  rintro _ _ ⟨rfl, rfl⟩
  go_wp2_with fail
  refine KP.out.mono ?_
  rintro _ _ ⟨rfl, rfl⟩
  have KI := index_any k (by omega) w1
  rw [hN0] at KI
  have KI := Lib.hid KI
  clear KD KP hLG1
  go_wp2_with fail
  refine KI.out.mono ?_
  rintro _ _ ⟨rfl, rfl⟩
  obtain ⟨w2, hmk, hro, hbm, hsz⟩ := make_rows N0 w1 (by omega)
  have HN1 := Lib.hid (show 1 ≤ N0 ∧ N0 ≤ 2 by omega)
  have HS2 := Lib.hid (HS1.out.kept (below_kept hbm) (by simp))
  have HB2 := Lib.hid hbm
  have HRO := Lib.hid hro
  clear KI hro hbm hsz hkk hN0
  go_wp2_with fail
  go_loopw [40, 5] (fun i s wr => ∃ (j : Nat) (f : Nat → Int), j ≤ k ∧ i = .int .i64 j ∧ RowsOwn wr w1.heap.size s (N0 + j) f ∧ Below w1.heap.size w1 wr) (fun i _ _ => k - (intOf i).toNat)
  case atStart => exact ⟨0, fun _ => 0, Nat.zero_le _, rfl, HRO.out, HB2.out⟩
  case round =>
    obtain ⟨j, f, hj, rfl, hro, hbr⟩ := hrel
    by_cases hlt : j < k
    · have hltz : (j : Int) < (k : Int) := by omega
      have j0 : (0 : Int) ≤ (j : Int) := Int.natCast_nonneg j
      have wj : IntKind.i64.wrap ((j : Int) + 1) = (j : Int) + 1 := by have := HK.out; rw [IntKind.wrap_i64]; omega
      obtain ⟨g, off, c, e, _, _, hgs, hrow⟩ := (HS1.out.kept (below_kept hbr) (by simp)).row (by omega)
      obtain ⟨rfl, rfl⟩ : ao = some ⟨g, off, none⟩ ∧ cap = c := by simpa using e
      have hgr := hrow j hlt
      have hlen := HS.out.len j hlt
      obtain ⟨x, hx⟩ : ∃ x, ln j = x := ⟨_, rfl⟩
      obtain ⟨l, hll⟩ : ∃ l, dt j = l := ⟨_, rfl⟩
      rw [hx, hll] at hgr
      rw [hll] at hlen
      have hxb : x < 1000 := by have := HR.out j hlt; have := HG.out.n1; omega
      have wx : IntKind.u64.wrap (x : Int) = (x : Int) := by rw [IntKind.wrap_u64]; omega
      obtain ⟨gr, capr, hv, hgb, hgl, hNc, hcm, hcell, hice, _⟩ := hro.form (by have := HN1.out; omega)
      subst hv
      have e8 : j / 8 * 8 + j % 8 = j := by omega
      have e9 : j / 8 < N0 + j := by have := HN1.out; omega
      have hc1 := hcell (j / 8 * 8 + j % 8) (by have := HN1.out; omega)
      have hi1 := hice (j / 8 * 8 + j % 8)
      have HGB := Lib.hid hgb
      have HRo := Lib.hid hro
      have HBr := Lib.hid hbr
      have HLT := Lib.hid hlt
      have HLEN := Lib.hid hlen
      clear hro hbr e hrow hlt hj hx hll hxb hcell hice hNc hgb hcm e8
      go_wp2_with fail
      have HN : Hid (obj (wr.alloc (.cells (homeC x l) 133)) wr.heap.size = some (.cells (homeC x l) 133)) := Lib.hid (newA wr _)
      have HSZ : Hid (wr.heap.size < (wr.alloc (.cells (homeC x l) 133)).heap.size) := Lib.hid (by simp)
      have HBA : Hid (Below w1.heap.size w1 (wr.alloc (.cells (homeC x l) 133))) := Lib.hid (HBr.out.alloc HBr.out.size _)
      have HRA : Hid (RowsOwn (wr.alloc (.cells (homeC x l) 133)) w1.heap.size (.slice (some ⟨gr, 0, none⟩) (N0 + j) capr) (N0 + j) f) := Lib.hid (HRo.out.below ((Below.refl _ _).alloc (Nat.le_refl _) _))
      have hc2 : cellAt (obj (wr.alloc (.cells (homeC x l) 133)) gr) (j / 8 * 8 + j % 8) = some (.int .u64 (f (j / 8 * 8 + j % 8))) := by rw [obj_alloc_past wr _ gr hgl]; exact hc1
      have hi2 : iceAt (obj (wr.alloc (.cells (homeC x l) 133)) gr) (j / 8 * 8 + j % 8) = false := by rw [obj_alloc_past wr _ gr hgl]; exact hi1
      have HNE : Hid (wr.heap.size ≠ gr) := Lib.hid (by omega)
      have HW1 : Hid (w1.heap.size ≤ wr.heap.size) := Lib.hid HBr.out.size
      generalize wr.alloc (.cells (homeC x l) 133) = wA at HN HSZ HBA HRA hc2 hi2 ⊢
      generalize wr.heap.size = bl at HN HSZ HNE HW1 ⊢
      clear hc1 hi1 hgl hgr hgs HRo HBr
      have q := HN.out
      have b2 := HSZ.out
      have b3 := lt_of_cell hc2
      refine wp_region_more_tail 10 (by kernel_rfl) (by kernel_rfl) (by kernel_rfl) ?_
      simp only [List.take_succ_cons, List.take_zero, List.drop_succ_cons, List.drop_zero]
      repeat (go_big_quiet_step ((fail)))
      refine wpQuiet_nil ?_
      intro _ hw'
      obtain ⟨y, hw''⟩ := hw'
      subst hw''
      have HN3 : Hid (obj (more wA y) bl = some (.cells (homeC x l) 133)) := Lib.hid (keep (more_below wA y) HN.out)
      have HB3 := Lib.hid (HBA.out.trans ((more_below wA y).mono HBA.out.size))
      have HR3 := Lib.hid (HRA.out.below (more_below wA y))
      have hc3 : cellAt (obj (more wA y) gr) (j / 8 * 8 + j % 8) = some (.int .u64 (f (j / 8 * 8 + j % 8))) := by rw [obj_below (more_below wA y) b3]; exact hc2
      have hi3 : iceAt (obj (more wA y) gr) (j / 8 * 8 + j % 8) = false := by rw [obj_below (more_below wA y) b3]; exact hi2
      clear q b2 b3 hc2 hi2 HN HSZ HBA HRA
      change wpList _ _ _ _ _ (more wA y)
      generalize more wA y = wB at HN3 HB3 HR3 hc3 hi3 ⊢
      have HN4 : Hid (obj (wB.setCell ⟨gr, j / 8 * 8 + j % 8, none⟩ (.int .u64 x)) bl = some (.cells (homeC x l) 133)) := Lib.hid ((obj_setCell_ne _ _ _ _ HNE.out).trans HN3.out)
      have HB4 : Hid (Below w1.heap.size w1 (wB.setCell ⟨gr, j / 8 * 8 + j % 8, none⟩ (.int .u64 x))) := Lib.hid (HB3.out.setCell (p := ⟨gr, j / 8 * 8 + j % 8, none⟩) HGB.out _)
      have HR4 : Hid ((wB.setCell ⟨gr, j / 8 * 8 + j % 8, none⟩ (.int .u64 x)).ownsRow w1.heap.size 91 8 (.slice (some ⟨gr, 0, none⟩) (N0 + j) capr) (N0 + j) (linesC (updF f (j / 8 * 8 + j % 8) x) (N0 + j))) := Lib.hid (HR3.out.stored (j / 8 * 8 + j % 8) x)
      have q4 := HN4.out
      have hq5 : obj wB bl = some (.cells (homeC x l) 133) := HN3.out
      have hne5 := HNE.out
      have SP4 := Lib.hid HB4.out.size
      go_wp2_with (at_builtin; refine wpList_append_lies _ rfl (.tmp 55) (.tmp 58) 196 rfl w1.heap.size 91 i0 _ 8 64 Tryz.underlying196 hi0 hz0 hz1 hz2 rfl (by decide) _ (N0 + j) _ rfl (HR4.out.alloc _) ⟨wB.heap.size, 0, none⟩ 1 1 (l.map (.int .u64 ·)) rfl (by simp; exact HLEN.out) (news_line (by simp) l (fold_words _ _ _ _ _ _ _ _ l HLEN.out)) (by simp [Value.oneCell']) (by decide) (by have := HLT.out; have := HK.out; have := HN1.out; unfold maxLen; omega) (by have := HLT.out; have := HK.out; have := HN1.out; omega) (by have := SP4.out; simp at this ⊢; omega) (wB.heap.size + 1) (by simp) ?_; intro gA capA wA2 hownA hgrowA hatA hltA)
      refine ⟨⟨j + 1, moreF (updF f (j / 8 * 8 + j % 8) x) (N0 + j) l, HLT.out, by simp, ?_, below_own HB4.out HB4.out.size HR4.out hgrowA⟩, by have := HLT.out; simp only [intOf]; omega⟩
      show World.ownsRow _ _ _ _ _ _ _
      rw [show N0 + (j + 1) = N0 + j + 1 by omega, ← linesC_more _ _ _ HLEN.out]
      exact hownA
    · have : j = k := by omega
      subst this
      have hltz : ¬ (j : Int) < (j : Int) := by omega
      obtain ⟨N, hN⟩ : ∃ N, N0 + j = N := ⟨_, rfl⟩
      rw [hN] at hro
      have HNN := Lib.hid (show 1 ≤ N ∧ N ≤ 16 by have := HN1.out; have := HK.out; omega)
      obtain ⟨gr, capr, hv, hgb, hgl, hNc, hcm, hrow⟩ := hro.row (by have := HNN.out; omega)
      subst hv
      have HRo := Lib.hid hro
      have HBr := Lib.hid hbr
      have HGB := Lib.hid hgb
      have HCM := Lib.hid (And.intro hNc hcm)
      have HL1 := Lib.hid (HH1.out.below (show Below w1.heap.size w1 wr from hbr))
      have HS3 := Lib.hid (HS1.out.kept (below_kept hbr) (by simp))
      have HLT1 := Lib.hid (show TU < w1.heap.size ∧ Mb < w1.heap.size ∧ Cb < w1.heap.size from ⟨lt_of_obj HH1.out.hT.hT, HH1.out.hT.hM.hM.lt, HH1.out.hT.hM.hL.lt⟩)
      clear hro hbr hgb hgl hNc hcm hrow hj hlt hN HRO HB2
      go_wp2_with fail
      generalize wr = wS at HRo HBr HL1 HS3 ⊢
      go_loopw [63] (fun i wq => i = .int .i64 0 ∧ wS = wq) (fun _ _ => 0)
      case atStart => exact ⟨rfl, rfl⟩
      case round =>
        obtain ⟨rfl, rfl⟩ := hrel
        have HL := HL1
        have hltz : (0 : Int) < (N : Int) := by have := HNN.out; omega
        obtain ⟨g2, cap2, hv2, _, hgl, _, _, hrow⟩ := HRo.out.row (by have := HNN.out; omega)
        obtain ⟨rfl, rfl⟩ : gr = g2 ∧ capr = cap2 := by simpa using hv2
        have hgr := hrow 0 (by have := HNN.out; omega)
        rw [Nat.zero_mul] at hgr
        obtain ⟨l, hll⟩ : ∃ l, lineOf f 0 = l := ⟨_, rfl⟩
        rw [hll] at hgr
        have hlen : l.length = 8 := by rw [← hll]; exact lineOf_len f 0
        have HLEN := Lib.hid hlen
        clear hrow hll hv2
        go_wp2_with fail
        have HL2 : Hid (LogIn (wS.alloc (.cells (cs l) 91)) LG TU LN Mb Cb n spares period puts m) := Lib.hid (HL.out.below ((Below.refl _ _).alloc (Nat.le_refl _) _))
        have HKP2 : Hid (Below wS.heap.size wS (wS.alloc (.cells (cs l) 91))) := Lib.hid ((Below.refl _ _).alloc (Nat.le_refl _) _)
        have HN : Hid (obj (wS.alloc (.cells (cs l) 91)) wS.heap.size = some (.cells (cs l) 91)) := Lib.hid (newA wS _)
        have HSZ : Hid (wS.heap.size < (wS.alloc (.cells (cs l) 91)).heap.size) := Lib.hid (by simp)
        generalize wS.alloc (.cells (cs l) 91) = w2' at HL2 HKP2 HN HSZ ⊢
        have HKP2 := Lib.hid (Kept.of_below (L := [Mb, Cb, TU]) HKP2.out)
        generalize wS.heap.size = bl at HN HSZ hgl ⊢
        have q := HN.out
        have b2 := HSZ.out
        have hLG2 : obj w2' LG = some (.cells #[.pointer (some ⟨Mb, 0, none⟩), .pointer (some ⟨TU, 0, none⟩)] 127 (0, 0)) := HL2.out.hG
        have b3 := lt_of_obj hLG2
        clear hgr hgl HL
        refine wp_region_more_tail 6 (by kernel_rfl) (by kernel_rfl) (by kernel_rfl) ?_
        simp only [List.take_succ_cons, List.take_zero, List.drop_succ_cons, List.drop_zero]
        repeat (go_big_quiet_step ((fail)))
        refine wpQuiet_nil ?_
        intro _ hw'
        obtain ⟨y, hw''⟩ := hw'
        subst hw''
        have HL3 := Lib.hid (HL2.out.below (more_below w2' y))
        have HKP3 := Lib.hid (HKP2.out.more y)
        have KP : Hid (Calls Tryz.prog 58 #[.pointer (some ⟨TU, 0, none⟩), .int .i64 0, .agg (cs l)] (more w2' y) _) := Lib.hid (tput_cut HL3.out.hT HG.out HC.out HMK.out HW.out 0 (by have := HL3.out.n16; omega) l HLEN.out)
        clear q b2 hLG2 b3 HL2 HKP2 HN HSZ hlen
        change wpList _ _ _ _ _ (more w2' y)
        generalize more w2' y = w3 at HL3 HKP3 KP ⊢
        go_wp2_with fail
        refine KP.out.mono ?_
        rintro _ w4 ⟨m2, rfl, hm, hcm, hK2⟩
        have HM4 := Lib.hid (And.intro hm hcm)
        have HKP4 := Lib.hid (((Kept.of_below (L := [Mb, Cb, TU]) (HB1.out.trans (HBr.out.mono HB1.out.size))).trans HKP3.out).trans hK2)
        clear hm hcm hK2 KP HL3 HKP3
        go_wp2
        go_ret
        exact ⟨m2, rfl, HM4.out.1, HM4.out.2, HKP4.out⟩
end
end Go.Proofs.YtphmfaddgpjndaaGreat

/- Contracts of package plan. -/
namespace Go.Proofs.YtphmfaddgpjndaaGreat
open Go.ChangeShapes Go.WideShapes Go.RowKit Go.Maps

/-- a plan -/
structure Pl where
  L : Nat
  S : Nat
  P : Nat
  B : Nat
def Pl.v (p : Pl) : Value := .agg #[.int .i64 p.L, .int .i64 p.S, .int .i64 p.P, .int .i64 p.B]
/-- one that may be -/
structure Pl.Ok (p : Pl) : Prop where
  hl : 1 ≤ p.L ∧ p.L ≤ 64
  hs : p.S ≤ 16
  hp : 1 ≤ p.P ∧ p.P ≤ 1000
  hb : 1 ≤ p.B ∧ p.B ≤ 100
section
variable {p : Pl}
set_option maxHeartbeats 800000 in
theorem pmay_any (h : p.Ok) (w : World) : Calls Tryz.prog 26 #[p.v] w fun e w' => e = .returned (.bool true) ∧ Below w.heap.size w w' := by
  obtain ⟨L, S, P, B⟩ := p
  obtain ⟨h1, h2, h3, h4⟩ := h
  simp only at h1 h2 h3 h4
  have d1 : (L : Int) ≥ 1 := by omega
  have d2 : (L : Int) ≤ 64 := by omega
  have d3 : (S : Int) ≥ 0 := by omega
  have d4 : (S : Int) ≤ 16 := by omega
  have d5 : (P : Int) ≥ 1 := by omega
  have d6 : (P : Int) ≤ 1000 := by omega
  have d7 : (B : Int) ≥ 1 := by omega
  have d8 : (B : Int) ≤ 100 := by omega
  clear h1 h2 h3 h4
  show Calls Tryz.prog 26 #[.agg #[.int .i64 L, .int .i64 S, .int .i64 P, .int .i64 B]] w _
  go_enter Tryz.func26, Tryz.ntmps26
  go_wp2
  go_ret
  exact ⟨rfl, (Below.refl _ _).alloc (Nat.le_refl _) _⟩
theorem page_any (l : Nat) (h : l ≤ 1000) (w : World) : Calls Tryz.prog 49 #[.int .i64 l] w fun e w' => e = .returned (.int .i64 (l / 4 : Nat)) ∧ w = w' := by
  have e1 : max (l : Int) 0 = (l : Int) := by omega
  obtain ⟨q, hq⟩ : ∃ q, l / 4 = q := ⟨_, rfl⟩
  have e2 : (l : Int).tdiv 4 = (q : Int) := by have := tdiv_nat l 4; rw [hq] at this; exact this
  have e3 : (l : Int) / 4 = (q : Int) := by omega
  have w1 : IntKind.i64.wrap (q : Int) = (q : Int) := by rw [IntKind.wrap_i64]; omega
  rw [hq]
  clear h hq
  go_enter Tryz.func49, Tryz.ntmps49
  go_wp2
  go_ret
  exact ⟨rfl, rfl⟩
set_option maxHeartbeats 800000 in
theorem words_any (h : p.Ok) (w : World) : Calls Tryz.prog 21 #[p.v] w fun e w' => e = .returned (.int .i64 (p.L * 8 : Nat)) ∧ Below w.heap.size w w' := by
  have K := Lib.hid (fun w => pmay_any h w)
  obtain ⟨L, S, P, B⟩ := p
  have h1 := h.hl
  simp only at h1
  obtain ⟨W, hW⟩ : ∃ W, L * 8 = W := ⟨_, rfl⟩
  have w1 : IntKind.i64.wrap ((L : Int) * 8) = (W : Int) := by rw [IntKind.wrap_i64]; omega
  simp only
  rw [hW]
  clear h h1 hW
  show Calls Tryz.prog 21 #[.agg #[.int .i64 L, .int .i64 S, .int .i64 P, .int .i64 B]] w _
  go_enter Tryz.func21, Tryz.ntmps21
  go_wp2_with fail
  refine (K.out _).mono ?_
  rintro _ w1 ⟨rfl, hb⟩
  have q := keep hb (newA w _)
  have HB := Lib.hid (((Below.refl w.heap.size w).alloc (Nat.le_refl _) (.cells #[.int .i64 L, .int .i64 S, .int .i64 P, .int .i64 B] 23)).trans (hb.mono (by simp)))
  clear hb
  go_wp2
  go_ret
  exact ⟨rfl, HB.out⟩
set_option maxHeartbeats 800000 in
theorem logical_any (h : p.Ok) (w : World) : Calls Tryz.prog 51 #[p.v] w fun e w' => e = .returned (.int .i64 (16 + p.L : Nat)) ∧ Below w.heap.size w w' := by
  have K := Lib.hid (fun w => pmay_any h w)
  obtain ⟨L, S, P, B⟩ := p
  have h1 := h.hl
  simp only at h1
  obtain ⟨W, hW⟩ : ∃ W, 16 + L = W := ⟨_, rfl⟩
  have w1 : IntKind.i64.wrap (16 + (L : Int)) = (W : Int) := by rw [IntKind.wrap_i64]; omega
  simp only
  rw [hW]
  clear h h1 hW
  show Calls Tryz.prog 51 #[.agg #[.int .i64 L, .int .i64 S, .int .i64 P, .int .i64 B]] w _
  go_enter Tryz.func51, Tryz.ntmps51
  go_wp2_with fail
  refine (K.out _).mono ?_
  rintro _ w1 ⟨rfl, hb⟩
  have q := keep hb (newA w _)
  have HB := Lib.hid (((Below.refl w.heap.size w).alloc (Nat.le_refl _) (.cells #[.int .i64 L, .int .i64 S, .int .i64 P, .int .i64 B] 23)).trans (hb.mono (by simp)))
  clear hb
  go_wp2
  go_ret
  exact ⟨rfl, HB.out⟩
set_option maxHeartbeats 800000 in
theorem pages_any (h : p.Ok) (w : World) : Calls Tryz.prog 22 #[p.v] w fun e w' => e = .returned (.int .i64 ((p.L - 1) / 4 + 1 : Nat)) ∧ Below w.heap.size w w' := by
  have K := Lib.hid (fun w => pmay_any h w)
  obtain ⟨L, S, P, B⟩ := p
  have h1 := h.hl
  simp only at h1
  obtain ⟨M, hM⟩ : ∃ M, L - 1 = M := ⟨_, rfl⟩
  have w1 : IntKind.i64.wrap ((L : Int) - 1) = (M : Int) := by rw [IntKind.wrap_i64]; omega
  have KP := Lib.hid (fun w => page_any M (by omega) w)
  obtain ⟨Q, hQ⟩ : ∃ Q, M / 4 = Q := ⟨_, rfl⟩
  obtain ⟨R, hR⟩ : ∃ R, Q + 1 = R := ⟨_, rfl⟩
  have w2 : IntKind.i64.wrap ((Q : Int) + 1) = (R : Int) := by rw [IntKind.wrap_i64]; omega
  simp only
  rw [hM, hQ, hR]
  rw [hQ] at KP
  clear h h1 hM hQ hR
  show Calls Tryz.prog 22 #[.agg #[.int .i64 L, .int .i64 S, .int .i64 P, .int .i64 B]] w _
  go_enter Tryz.func22, Tryz.ntmps22
  go_wp2_with fail
  refine (K.out _).mono ?_
  rintro _ w1 ⟨rfl, hb⟩
  have q := keep hb (newA w _)
  have HB := Lib.hid (((Below.refl w.heap.size w).alloc (Nat.le_refl _) (.cells #[.int .i64 L, .int .i64 S, .int .i64 P, .int .i64 B] 23)).trans (hb.mono (by simp)))
  clear hb
  go_wp2_with fail
  refine (KP.out _).mono ?_
  rintro _ _ ⟨rfl, rfl⟩
  go_wp2
  go_ret
  exact ⟨rfl, HB.out⟩
set_option maxHeartbeats 800000 in
theorem home_any (h : p.Ok) (i : Nat) (hi : i < p.L) (w : World) : Calls Tryz.prog 46 #[p.v, .int .i64 i] w fun e w' => e = .returned (.int .i64 (16 + i : Nat)) ∧ Below w.heap.size w w' := by
  have K := Lib.hid (fun w => pmay_any h w)
  obtain ⟨L, S, P, B⟩ := p
  have h1 := h.hl
  simp only at h1 hi
  obtain ⟨W, hW⟩ : ∃ W, 16 + i = W := ⟨_, rfl⟩
  have w1 : IntKind.i64.wrap (16 + (i : Int)) = (W : Int) := by rw [IntKind.wrap_i64]; omega
  have d1 : ¬ (i : Int) < 0 := by omega
  have d2 : ¬ (i : Int) ≥ (L : Int) := by omega
  rw [hW]
  clear h h1 hW hi
  show Calls Tryz.prog 46 #[.agg #[.int .i64 L, .int .i64 S, .int .i64 P, .int .i64 B], .int .i64 i] w _
  go_enter Tryz.func46, Tryz.ntmps46
  go_wp2_with fail
  refine (K.out _).mono ?_
  rintro _ w1 ⟨rfl, hb⟩
  have q := keep hb (newA w _)
  have HB := Lib.hid (((Below.refl w.heap.size w).alloc (Nat.le_refl _) (.cells #[.int .i64 L, .int .i64 S, .int .i64 P, .int .i64 B] 23)).trans (hb.mono (by simp)))
  clear hb
  go_wp2
  go_ret
  exact ⟨rfl, HB.out⟩
set_option maxRecDepth 100000 in
set_option maxHeartbeats 1600000 in
theorem device_any (h : p.Ok) (w : World) : Calls Tryz.prog 28 #[p.v] w fun e w' => e = .returned (.int .i64 (16 + p.L + 1 + p.S : Nat)) ∧ Below w.heap.size w w' := by
  have K := Lib.hid (fun w => pmay_any h w)
  have KL := Lib.hid (fun w => logical_any h w)
  obtain ⟨L, S, P, B⟩ := p
  have h1 := h.hl
  have h2 := h.hs
  simp only at h1 h2
  obtain ⟨W, hW⟩ : ∃ W, 16 + L = W := ⟨_, rfl⟩
  obtain ⟨X, hX⟩ : ∃ X, W + 1 = X := ⟨_, rfl⟩
  obtain ⟨Y, hY⟩ : ∃ Y, X + S = Y := ⟨_, rfl⟩
  have w1 : IntKind.i64.wrap ((W : Int) + 1) = (X : Int) := by rw [IntKind.wrap_i64]; omega
  have w2 : IntKind.i64.wrap ((X : Int) + (S : Int)) = (Y : Int) := by rw [IntKind.wrap_i64]; omega
  simp only at KL ⊢
  rw [hW] at KL ⊢
  rw [hX, hY]
  clear h h1 h2 hW hX hY
  show Calls Tryz.prog 28 #[.agg #[.int .i64 L, .int .i64 S, .int .i64 P, .int .i64 B]] w _
  go_enter Tryz.func28, Tryz.ntmps28
  go_wp2_with fail
  refine (K.out _).mono ?_
  rintro _ w1 ⟨rfl, hb⟩
  have q := keep hb (newA w _)
  have hsz := lt_of_obj q
  have HB := Lib.hid (((Below.refl w.heap.size w).alloc (Nat.le_refl _) (.cells #[.int .i64 L, .int .i64 S, .int .i64 P, .int .i64 B] 23)).trans (hb.mono (by simp)))
  clear hb
  go_wp2_with fail
  refine wp_region_more (by kernel_rfl) (by kernel_rfl) ?_
  repeat (go_big_quiet_step ((go_at_call 51; exact more_call (KL.out _))))
  refine wpQuiet_nil ?_
  intro _ hw'
  obtain ⟨y, hw''⟩ := hw'
  subst hw''
  go_wp2_with fail
  go_ret
  exact ⟨rfl, HB.out.trans ((more_below w1 y).mono HB.out.size)⟩
end
end Go.Proofs.YtphmfaddgpjndaaGreat

/- Contracts of package count. -/
namespace Go.Proofs.YtphmfaddgpjndaaGreat
open Go.ChangeShapes Go.WideShapes Go.RowKit

/-- a count as it is kept -/
def clampK (n : Int) : Int := min (max n 0) 1099511627776
/-- a row of whole numbers -/
def ints (l : List Int) : List Value := l.map (.int .i64 ·)
/-- two rows lie apart -/
def Apart (C : Nat) (s1 s2 : Value) : Prop := s1.ownBlock ≠ some C ∧ s2.ownBlock ≠ some C ∧ (s1.ownBlock = none ∨ s1.ownBlock ≠ s2.ownBlock)
/-- a count lies in block C -/
def CountAt (w : World) (base C : Nat) (batch : Int) (now kept : List Int) : Prop :=
  ∃ s1 s2, base ≤ C ∧ obj w C = some (.cells #[.int .i64 batch, s1, s2] 137 (0, 0)) ∧ w.ownsRow base 3 1 s1 now.length (ints now) ∧ w.ownsRow base 3 1 s2 kept.length (ints kept) ∧ Apart C s1 s2 ∧ (now.length = 0 → s1 = .slice none 0 0)

/-! ### what holds while the two rows grow, whichever operations have run -/
/-- the slots' facts -/
def growL (C : Nat) (t : Int) (s1 s2 : Value) : List (Nat × Nat × Value) :=
  [(0, 31, .pointer (some ⟨C, 0, none⟩)), (1, 32, .pointer (some ⟨C, 0, none⟩)), (2, 33, .pointer (some ⟨C, 0, none⟩)), (3, 34, .pointer (some ⟨C, 0, none⟩)), (4, 35, .pointer (some ⟨C, 1, none⟩)), (5, 36, s1), (6, 37, .int .i64 t),
   (9, 40, .pointer (some ⟨C, 0, none⟩)), (10, 41, .pointer (some ⟨C, 0, none⟩)), (11, 42, .pointer (some ⟨C, 2, none⟩)), (12, 43, s2), (13, 44, .int .i64 t),
   (16, 47, .pointer (some ⟨C, 0, none⟩)), (17, 48, .pointer (some ⟨C, 1, none⟩)), (19, 49, .pointer (some ⟨C, 0, none⟩)), (20, 50, .pointer (some ⟨C, 2, none⟩))]
def growO : List (Nat × Nat) := [(18, 5), (18, 8), (18, 15), (21, 12), (21, 15), (21, 18), (8, 7), (15, 14), (15, 8)]
/-- a one-element row that waits to be appended -/
def Waits (w : World) (C : Nat) (t : Int) (r1 r2 v : Value) : Prop :=
  ∃ g, v = .slice (some ⟨g, 0, none⟩) 1 1 ∧ obj w g = some (.cells #[.int .i64 t] 3 (0, 0)) ∧ g ≠ C ∧ r1.ownBlock ≠ some g ∧ r2.ownBlock ≠ some g
/-- the world's -/
structure GrowW (w0 : World) (base C : Nat) (batch t : Int) (k : Nat) (xs1 xs2 : List Value) (s1 s2 : Value) (d7 d8 d14 d15 d18 d21 : Bool) (t38 t39 t45 t46 : Value) (w : World) : Prop where
  below : Below base w0 w
  bC : base ≤ C
  hb : base ≤ w.heap.size
  hC : obj w C = some (.cells #[.int .i64 batch, if d18 then t39 else s1, if d21 then t46 else s2] 137 (0, 0))
  r1 : w.ownsRow base 3 1 (if d8 then t39 else s1) (if d8 then k + 1 else k) (if d8 then xs1 ++ [.int .i64 t] else xs1)
  r2 : w.ownsRow base 3 1 (if d15 then t46 else s2) (if d15 then k + 1 else k) (if d15 then xs2 ++ [.int .i64 t] else xs2)
  ap : Apart C (if d8 then t39 else s1) (if d15 then t46 else s2)
  b1 : d7 = true → d8 = false → Waits w C t (if d8 then t39 else s1) (if d15 then t46 else s2) t38
  b2 : d14 = true → d15 = false → Waits w C t (if d8 then t39 else s1) (if d15 then t46 else s2) t45
/-- all of it -/
def Grow (w0 : World) (base C : Nat) (batch t : Int) (k : Nat) (xs1 xs2 : List Value) (s1 s2 : Value) (P0 : Nat → Value) (d : Nat → Bool) (T : Nat → Value) (w : World) : Prop :=
  Facts (growL C t s1 s2) d T ∧ Ord growO d ∧ (∀ s, s < 31 ∨ 50 < s → T s = P0 s) ∧ GrowW w0 base C batch t k xs1 xs2 s1 s2 (d 7) (d 8) (d 14) (d 15) (d 18) (d 21) (T 38) (T 39) (T 45) (T 46) w
section
variable {w0 : World} {base C : Nat} {batch t : Int} {k : Nat} {xs1 xs2 : List Value} {s1 s2 : Value} {d7 d8 d14 d15 d18 d21 : Bool} {t38 t39 t45 t46 : Value} {w : World}
theorem Waits.alloc {r1 r2 v : Value} (h : Waits w C t r1 r2 v) (o : Obj) : Waits (w.alloc o) C t r1 r2 v := by
  obtain ⟨g, h1, h2, h3⟩ := h
  exact ⟨g, h1, (obj_alloc_past w o g (lt_of_obj h2)).trans h2, h3⟩
theorem own_lt {v : Value} {n : Nat} {xs : List Value} (h : w.ownsRow base 3 1 v n xs) : v.ownBlock ≠ some w.heap.size := fun e => by have := (h.lt _ e).2; omega
theorem GrowW.build1 (h : GrowW w0 base C batch t k xs1 xs2 s1 s2 d7 d8 d14 d15 d18 d21 t38 t39 t45 t46 w) :
    GrowW w0 base C batch t k xs1 xs2 s1 s2 true d8 d14 d15 d18 d21 (.slice (some ⟨w.heap.size, 0, none⟩) 1 1) t39 t45 t46 (w.alloc (.cells #[.int .i64 t] 3)) := by
  have lC := lt_of_obj h.hC
  refine ⟨h.below.alloc h.hb _, h.bC, Nat.le_trans h.hb (by simp), (obj_alloc_past w _ C lC).trans h.hC, h.r1.alloc _, h.r2.alloc _, h.ap, fun _ _ => ?_, fun e1 e2 => (h.b2 e1 e2).alloc _⟩
  exact ⟨w.heap.size, rfl, obj_alloc_at w _ _ rfl, by omega, own_lt h.r1, own_lt h.r2⟩
theorem GrowW.build2 (h : GrowW w0 base C batch t k xs1 xs2 s1 s2 d7 d8 d14 d15 d18 d21 t38 t39 t45 t46 w) :
    GrowW w0 base C batch t k xs1 xs2 s1 s2 d7 d8 true d15 d18 d21 t38 t39 (.slice (some ⟨w.heap.size, 0, none⟩) 1 1) t46 (w.alloc (.cells #[.int .i64 t] 3)) := by
  have lC := lt_of_obj h.hC
  refine ⟨h.below.alloc h.hb _, h.bC, Nat.le_trans h.hb (by simp), (obj_alloc_past w _ C lC).trans h.hC, h.r1.alloc _, h.r2.alloc _, h.ap, fun e1 e2 => (h.b1 e1 e2).alloc _, fun _ _ => ?_⟩
  exact ⟨w.heap.size, rfl, obj_alloc_at w _ _ rfl, by omega, own_lt h.r1, own_lt h.r2⟩
theorem grown_obj {w' : World} {row : Option Nat} (h : w.grownBy w' row) {g : Nat} (hg : g < w.heap.size) (hne : row ≠ some g) : obj w' g = obj w g := h.block g hg (Ne.symm hne)
theorem GrowW.append1 {w' : World} {g cap : Nat} (h : GrowW w0 base C batch t k xs1 xs2 s1 s2 d7 false d14 false false false t38 t39 t45 t46 w)
    (hown : w'.ownsRow base 3 1 (.slice (some ⟨g, 0, none⟩) (k + 1) cap) (k + 1) (xs1 ++ [.int .i64 t])) (hg : w.grownBy w' s1.ownBlock) (hat : s1.ownBlock = some g ∨ g = w.heap.size) :
    GrowW w0 base C batch t k xs1 xs2 s1 s2 d7 true d14 false false false t38 (.slice (some ⟨g, 0, none⟩) (k + 1) cap) t45 t46 w' := by
  obtain ⟨hbe, hbC, hb, hC, r1, r2, ap, _, b2⟩ := h
  simp only [Bool.false_eq_true, if_false] at hC r1 r2 ap b2
  have lC := lt_of_obj hC
  have hne2 : s2.ownBlock ≠ some g := by
    rcases hat with e | e
    · intro e2
      rcases ap.2.2 with e3 | e3
      · rw [e3] at e; cases e
      · exact e3 (e.trans e2.symm)
    · rw [e]; exact own_lt r2
  refine ⟨hbe.grown hg hb fun j hj => (r1.lt j hj).1, hbC, Nat.le_trans hb hg.size, ?_, hown, ?_, ⟨?_, ap.2.1, Or.inr ?_⟩, fun _ e => (by cases e), fun e1 e2 => ?_⟩
  · simp only [Bool.false_eq_true, if_false]; rw [grown_obj hg lC ap.1]; exact hC
  · refine r2.kept hg ?_
    rcases ap.2.2 with e | e
    · cases h2 : s2.ownBlock with
      | none => exact Or.inl rfl
      | some x => right; rw [e]; simp
    · exact Or.inr (Ne.symm e)
  · intro e
    have e' : g = C := by simpa [Value.ownBlock] using e
    subst e'
    rcases hat with e2 | e2
    · exact ap.1 e2
    · omega
  · intro e; exact hne2 e.symm
  · obtain ⟨g2, w1, w2, w3, w4, w5⟩ := b2 e1 trivial
    have l2 := lt_of_obj w2
    refine ⟨g2, w1, (grown_obj hg l2 w4).trans w2, w3, ?_, w5⟩
    intro e
    have e' : g = g2 := by simpa [Value.ownBlock] using e
    subst e'
    rcases hat with e3 | e3
    · exact w4 e3
    · omega
theorem GrowW.append2 {w' : World} {g cap : Nat} (h : GrowW w0 base C batch t k xs1 xs2 s1 s2 d7 true d14 false false false t38 t39 t45 t46 w)
    (hown : w'.ownsRow base 3 1 (.slice (some ⟨g, 0, none⟩) (k + 1) cap) (k + 1) (xs2 ++ [.int .i64 t])) (hg : w.grownBy w' s2.ownBlock) (hat : s2.ownBlock = some g ∨ g = w.heap.size) :
    GrowW w0 base C batch t k xs1 xs2 s1 s2 d7 true d14 true false false t38 t39 t45 (.slice (some ⟨g, 0, none⟩) (k + 1) cap) w' := by
  obtain ⟨hbe, hbC, hb, hC, r1, r2, ap, b1, _⟩ := h
  simp only [Bool.false_eq_true, if_false, if_true] at hC r1 r2 ap b1
  have lC := lt_of_obj hC
  have hne1 : t39.ownBlock ≠ some g := by
    rcases hat with e | e
    · intro e2
      rcases ap.2.2 with e3 | e3
      · rw [e3] at e2; cases e2
      · exact e3 (e2.trans e.symm)
    · rw [e]; exact own_lt r1
  refine ⟨hbe.grown hg hb fun j hj => (r2.lt j hj).1, hbC, Nat.le_trans hb hg.size, ?_, ?_, hown, ⟨ap.1, ?_, Or.inr hne1⟩, fun _ e => (by cases e), fun _ e => (by cases e)⟩
  · simp only [Bool.false_eq_true, if_false]; rw [grown_obj hg lC ap.2.1]; exact hC
  · refine r1.kept hg ?_
    exact ap.2.2
  · intro e
    have e' : g = C := by simpa [Value.ownBlock] using e
    subst e'
    rcases hat with e2 | e2
    · exact ap.2.1 e2
    · omega
theorem grown_setCell (a : Addr) (v : Value) : w.grownBy (w.setCell a v) (some a.block) :=
  ⟨rfl, rfl, rfl, by simp, fun j _ hne => heap_setCell_other w a j v fun e => hne (by rw [e])⟩
theorem GrowW.store1 (h : GrowW w0 base C batch t k xs1 xs2 s1 s2 d7 true d14 true false false t38 t39 t45 t46 w) :
    GrowW w0 base C batch t k xs1 xs2 s1 s2 d7 true d14 true true false t38 t39 t45 t46 (w.setCell ⟨C, 1, none⟩ t39) := by
  obtain ⟨hbe, hbC, hb, hC, r1, r2, ap, _, _⟩ := h
  simp only [Bool.false_eq_true, if_false, if_true] at hC r1 r2 ap
  refine ⟨hbe.setCell hbC _, hbC, by simpa using hb, ?_, r1.kept (grown_setCell _ _) (Or.inr ap.1), r2.kept (grown_setCell _ _) (Or.inr ap.2.1), ap, fun _ e => (by cases e), fun _ e => (by cases e)⟩
  rw [obj_setCell_eq, hC]; rfl
theorem GrowW.store2 (h : GrowW w0 base C batch t k xs1 xs2 s1 s2 d7 true d14 true true false t38 t39 t45 t46 w) :
    GrowW w0 base C batch t k xs1 xs2 s1 s2 d7 true d14 true true true t38 t39 t45 t46 (w.setCell ⟨C, 2, none⟩ t46) := by
  obtain ⟨hbe, hbC, hb, hC, r1, r2, ap, _, _⟩ := h
  simp only [Bool.false_eq_true, if_false, if_true] at hC r1 r2 ap
  refine ⟨hbe.setCell hbC _, hbC, by simpa using hb, ?_, r1.kept (grown_setCell _ _) (Or.inr ap.1), r2.kept (grown_setCell _ _) (Or.inr ap.2.1), ap, fun _ e => (by cases e), fun _ e => (by cases e)⟩
  rw [obj_setCell_eq, hC]; rfl
end
/-- an operation that reads, and no world's fact speaks of -/
theorem Grow.plain {w0 : World} {base C : Nat} {batch t : Int} {k : Nat} {xs1 xs2 : List Value} {s1 s2 : Value} {T0 : Nat → Value} {d : Nat → Bool} {T : Nat → Value} {w : World}
    (hG : Grow w0 base C batch t k xs1 xs2 s1 s2 T0 d T w) (i s : Nat) (v : Value) (h1 : ∀ x ∈ growL C t s1 s2, if x.1 = i then x.2.1 = s ∧ x.2.2 = v else x.2.1 ≠ s) (h2 : ∀ x ∈ growO, x.1 = i → d x.2 = true)
    (hs : 31 ≤ s ∧ s ≤ 50) (hs2 : s ≠ 38 ∧ s ≠ 39 ∧ s ≠ 45 ∧ s ≠ 46) (hi : i ≠ 7 ∧ i ≠ 8 ∧ i ≠ 14 ∧ i ≠ 15 ∧ i ≠ 18 ∧ i ≠ 21) : Grow w0 base C batch t k xs1 xs2 s1 s2 T0 (also d i) (upd T s v) w := by
  obtain ⟨hF, hO, hT, hW⟩ := hG
  obtain ⟨a1, a2, a3, a4⟩ := hs2
  obtain ⟨b1, b2, b3, b4, b5, b6⟩ := hi
  refine ⟨hF.step i s v h1, hO.step i h2, fun j hj => ?_, ?_⟩
  · unfold upd; rw [if_neg (by omega)]; exact hT j hj
  · unfold also upd
    rw [if_neg (Ne.symm a1), if_neg (Ne.symm a2), if_neg (Ne.symm a3), if_neg (Ne.symm a4), if_neg (Ne.symm b1), if_neg (Ne.symm b2), if_neg (Ne.symm b3), if_neg (Ne.symm b4), if_neg (Ne.symm b5), if_neg (Ne.symm b6)]
    exact hW

theorem take_next {l : List Int} {n k : Nat} {v : Int} (hn : n = l.length) (hk : k < n) (hv : l.getD k 0 = v) :
    ints ((l.map clampK).take (k + 1)) = ints ((l.map clampK).take k) ++ [.int .i64 (min (max v 0) 1099511627776)] ∧ ((l.map clampK).take (k + 1)).length = k + 1 := by
  have h1 : (l.map clampK)[k]? = some (min (max v 0) 1099511627776) := by
    rw [List.getElem?_map]
    have h2 : l[k]? = some v := by
      rw [List.getD_eq_getElem?_getD, List.getElem?_eq_getElem (by omega)] at hv
      rw [List.getElem?_eq_getElem (by omega)]
      simpa using hv
    rw [h2]; rfl
  constructor
  · rw [List.take_add_one, h1]; simp [ints]
  · simp; omega
set_option maxRecDepth 100000 in
set_option maxHeartbeats 3200000 in
theorem new_any (batch : Int) (l : List Int) (b off n cap : Nat) (w : World) (hn : n = l.length) (h16 : n ≤ 16) (hb1 : 1 ≤ batch) (hb2 : batch ≤ 100) (hc : ∀ j, j < n → cellAt (obj w b) (off + j) = some (.int .i64 (l.getD j 0))) :
    Calls Tryz.prog 100 #[.int .i64 batch, .slice (some ⟨b, off, none⟩) n cap] w fun e w' => ∃ C, e = .returned (.pointer (some ⟨C, 0, none⟩)) ∧ CountAt w' w.heap.size C batch (l.map clampK) (l.map clampK) ∧ Below w.heap.size w w' := by
  have d1 : decide (batch < 1) = false := decide_eq_false (by omega)
  have d2 : decide (100 < batch) = false := decide_eq_false (by omega)
  have d3 : decide (16 < (n : Int)) = false := decide_eq_false (by omega)
  have HC := Lib.hid hc
  have HN := Lib.hid hn
  clear hc hn
  go_enter Tryz.func100, Tryz.ntmps100
  go_wp2
  go_loopw [24] (fun i wr => ∃ k : Nat, k ≤ n ∧ i = .int .i64 k ∧ CountAt wr w.heap.size w.heap.size batch ((l.map clampK).take k) ((l.map clampK).take k) ∧ Below w.heap.size w wr) (fun i _ => n - (intOf i).toNat)
  case atStart =>
    exact ⟨0, by omega, rfl, ⟨.slice none 0 0, .slice none 0 0, Nat.le_refl _, by first | exact newA w _ | simp [go_sem], World.ownsRow_nil _ _ _ _, World.ownsRow_nil _ _ _ _, ⟨by simp [Value.ownBlock], by simp [Value.ownBlock], Or.inl rfl⟩, fun _ => rfl⟩, (Below.refl _ _).alloc (Nat.le_refl _) _⟩
  case round =>
    obtain ⟨k, hk, rfl, hC, hB⟩ := hrel
    have HB := Lib.hid hB
    have HCo := Lib.hid hC
    clear hB hC
    by_cases hlt : k < n
    · have hltz : (k : Int) < (n : Int) := by omega
      have HK : Hid (k < 16) := Lib.hid (by omega)
      have cK : cellAt (obj wr b) (off + k) = some (.int .i64 (l.getD k 0)) := by
        have h := HC.out k hlt
        obtain ⟨o, ho⟩ : ∃ o, obj w b = some o := by
          cases h2 : obj w b with
          | none => rw [h2] at h; simp [cellAt] at h
          | some o => exact ⟨o, rfl⟩
        rw [keep HB.out ho, ← ho]; exact h
      generalize hv : l.getD k 0 = v at cK
      have HV := Lib.hid hv
      clear hv
      obtain ⟨s1, s2, hb, hCo, hr1, hr2, hap, _⟩ := HCo.out
      clear HCo
      have hb' := Lib.hid hb
      have hCo' := Lib.hid hCo
      have hr1' := Lib.hid hr1
      have hr2' := Lib.hid hr2
      have hap' := Lib.hid hap
      clear hb hCo hr1 hr2 hap
      have LEN : ((l.map clampK).take k).length = k := by have := HN.out; simp; omega
      have LEN := Lib.hid LEN
      go_wp2
      refine wp_region_slots 53 (fun T0 d T w' => Grow wr w.heap.size w.heap.size batch (min (max v 0) 1099511627776) k (ints ((l.map clampK).take k)) (ints ((l.map clampK).take k)) s1 s2 T0 d T w' ∧ T0 5 = .pointer (some ⟨w.heap.size, 0, none⟩) ∧ T0 7 = .int .i64 (min (max v 0) 1099511627776))
        (by kernel_rfl) (by kernel_rfl) rfl rfl ?_ ?_ ?_
      · refine ⟨⟨Facts.start (by simp [growL]), Ord.start (by simp [growO]), fun _ _ => rfl, ?_⟩, rfl, rfl⟩
        refine ⟨(Below.refl _ _).drew, Nat.le_refl _, ?_, ?_, ?_, ?_, ?_, fun e => (by cases e), fun e => (by cases e)⟩
        · exact HB.out.size
        · exact hCo'.out
        · have h := hr1'.out.drew
          rw [LEN.out] at h
          exact h
        · have h := hr2'.out.drew
          rw [LEN.out] at h
          exact h
        · exact hap'.out
      · intro T0
        refine ⟨?_, ?_, ?_, ?_, ?_, ?_, ?_, ?_, ?_, ?_, ?_, ?_, ?_, ?_, ?_, ?_, ?_, ?_, ?_, ?_, ?_, ?_, trivial⟩
        · refine keeps_of' rfl ?_
          rintro d T w1 hd ha ⟨hG, h5, h7⟩ K hK
          have e := (hG.2.2.1 5 (Or.inl (by decide))).trans h5
          go_simp
          exact hK _ _ ⟨hG.plain 0 31 _ (by simp [growL]) (by simp [growO]) (by decide) (by decide) (by decide), h5, h7⟩
        · refine keeps_of' rfl ?_
          rintro d T w1 hd ha ⟨hG, h5, h7⟩ K hK
          have e := (hG.2.2.1 5 (Or.inl (by decide))).trans h5
          go_simp
          exact hK _ _ ⟨hG.plain 1 32 _ (by simp [growL]) (by simp [growO]) (by decide) (by decide) (by decide), h5, h7⟩
        · refine keeps_of' rfl ?_
          rintro d T w1 hd ha ⟨hG, h5, h7⟩ K hK
          have e := (hG.2.2.1 5 (Or.inl (by decide))).trans h5
          go_simp
          exact hK _ _ ⟨hG.plain 2 33 _ (by simp [growL]) (by simp [growO]) (by decide) (by decide) (by decide), h5, h7⟩
        · refine keeps_of' rfl ?_
          rintro d T w1 hd ha ⟨hG, h5, h7⟩ K hK
          have e := hG.1 (2, 33, .pointer (some ⟨w.heap.size, 0, none⟩)) (by simp [growL]) (ha 2 (by decide))
          simp only at e
          go_simp
          exact hK _ _ ⟨hG.plain 3 34 _ (by simp [growL]) (by simp [growO]) (by decide) (by decide) (by decide), h5, h7⟩
        · refine keeps_of' rfl ?_
          rintro d T w1 hd ha ⟨hG, h5, h7⟩ K hK
          have e := hG.1 (3, 34, .pointer (some ⟨w.heap.size, 0, none⟩)) (by simp [growL]) (ha 3 (by decide))
          simp only at e
          go_simp
          exact hK _ _ ⟨hG.plain 4 35 _ (by simp [growL]) (by simp [growO]) (by decide) (by decide) (by decide), h5, h7⟩
        · refine keeps_of' rfl ?_
          rintro d T w1 hd ha ⟨hG, h5, h7⟩ K hK
          have e := hG.1 (4, 35, .pointer (some ⟨w.heap.size, 1, none⟩)) (by simp [growL]) (ha 4 (by decide))
          simp only at e
          have o18 := hG.2.1.not (x := 18) (y := 5) (by simp [growO]) hd
          have hC := hG.2.2.2.hC
          rw [o18] at hC
          simp only [Bool.false_eq_true, if_false] at hC
          go_simp
          exact hK _ _ ⟨hG.plain 5 36 _ (by simp [growL]) (by simp [growO]) (by decide) (by decide) (by decide), h5, h7⟩
        · refine keeps_of' rfl ?_
          rintro d T w1 hd ha ⟨hG, h5, h7⟩ K hK
          have e := (hG.2.2.1 7 (Or.inl (by decide))).trans h7
          go_simp
          exact hK _ _ ⟨hG.plain 6 37 _ (by simp [growL]) (by simp [growO]) (by decide) (by decide) (by decide), h5, h7⟩
        · refine keeps_of' rfl ?_
          rintro d T w1 hd ha ⟨⟨hF, hO, hT, hW⟩, h5, h7⟩ K hK
          have e := hF (6, 37, .int .i64 (min (max v 0) 1099511627776)) (by simp [growL]) (ha 6 (by decide))
          simp only at e
          go_simp
          exact hK _ _ ⟨⟨hF.step 7 38 _ (by simp [growL]), hO.step 7 (by simp [growO]), fun j hj => by unfold upd; rw [if_neg (by omega)]; exact hT j hj, hW.build1⟩, h5, h7⟩
        · refine keeps_of' rfl ?_
          rintro d T w1 hd ha ⟨⟨hF, hO, hT, hW⟩, h5, h7⟩ K hK
          have e1 := hF (5, 36, s1) (by simp [growL]) (ha 5 (by decide))
          simp only at e1
          have o7 := ha 7 (by decide)
          have o18 := hO.not (x := 18) (y := 8) (by simp [growO]) hd
          have o15 := hO.not (x := 15) (y := 8) (by simp [growO]) hd
          have o21 := hO.not (x := 21) (y := 15) (by simp [growO]) o15
          rw [hd, o15, o18, o21] at hW
          obtain ⟨g, g1, g2, _⟩ := hW.b1 o7 rfl
          have hrow := hW.r1
          simp only [Bool.false_eq_true, if_false] at hrow
          obtain ⟨i0, hi0, hz0, hz1, hz2⟩ := info_parts' info3
          refine wp_append_lies w1 (.tmp 36) (.tmp 38) 53 (by rfl) w.heap.size 3 i0 _ 1 8 Tryz.underlying53 hi0 hz0 hz1 hz2 rfl (by omega) s1 k _ ((actOf_eval 53 T 36 (by decide)).trans e1) hrow ⟨g, 0, none⟩ 1 1 [.int .i64 (min (max v 0) 1099511627776)]
            ((actOf_eval 53 T 38 (by decide)).trans g1) (by rfl) (World.news_of_block (cs := #[.int .i64 (min (max v 0) 1099511627776)]) (t := 3) (fr := (0, 0)) g2) (by simp [Value.oneCell']) (by omega) (by have := HK.out; unfold maxLen; omega) (by have := HK.out; omega) hW.hb w1.heap.size rfl ?_
          intro gg cp w2 hown hgrow hat _
          rw [actOf_put 53 T 39 _ (by decide)]
          refine hK _ _ ⟨⟨hF.step 8 39 _ (by simp [growL]), hO.step 8 (by simp [growO, o7]), fun j hj => by unfold upd; rw [if_neg (by omega)]; exact hT j hj, ?_⟩, h5, h7⟩
          have hW2 := hW.append1 hown hgrow hat
          show GrowW _ _ _ _ _ _ _ _ _ _ (d 7) true (d 14) (d 15) (d 18) (d 21) (T 38) _ (T 45) (T 46) w2
          rw [o15, o18, o21]
          exact hW2
        · refine keeps_of' rfl ?_
          rintro d T w1 hd ha ⟨hG, h5, h7⟩ K hK
          have e := (hG.2.2.1 5 (Or.inl (by decide))).trans h5
          go_simp
          exact hK _ _ ⟨hG.plain 9 40 _ (by simp [growL]) (by simp [growO]) (by decide) (by decide) (by decide), h5, h7⟩
        · refine keeps_of' rfl ?_
          rintro d T w1 hd ha ⟨hG, h5, h7⟩ K hK
          have e := hG.1 (9, 40, .pointer (some ⟨w.heap.size, 0, none⟩)) (by simp [growL]) (ha 9 (by decide))
          simp only at e
          go_simp
          exact hK _ _ ⟨hG.plain 10 41 _ (by simp [growL]) (by simp [growO]) (by decide) (by decide) (by decide), h5, h7⟩
        · refine keeps_of' rfl ?_
          rintro d T w1 hd ha ⟨hG, h5, h7⟩ K hK
          have e := hG.1 (10, 41, .pointer (some ⟨w.heap.size, 0, none⟩)) (by simp [growL]) (ha 10 (by decide))
          simp only at e
          go_simp
          exact hK _ _ ⟨hG.plain 11 42 _ (by simp [growL]) (by simp [growO]) (by decide) (by decide) (by decide), h5, h7⟩
        · refine keeps_of' rfl ?_
          rintro d T w1 hd ha ⟨hG, h5, h7⟩ K hK
          have e := hG.1 (11, 42, .pointer (some ⟨w.heap.size, 2, none⟩)) (by simp [growL]) (ha 11 (by decide))
          simp only at e
          have o21 := hG.2.1.not (x := 21) (y := 12) (by simp [growO]) hd
          have hC := hG.2.2.2.hC
          rw [o21] at hC
          simp only [Bool.false_eq_true, if_false] at hC
          go_simp
          exact hK _ _ ⟨hG.plain 12 43 _ (by simp [growL]) (by simp [growO]) (by decide) (by decide) (by decide), h5, h7⟩
        · refine keeps_of' rfl ?_
          rintro d T w1 hd ha ⟨hG, h5, h7⟩ K hK
          have e := (hG.2.2.1 7 (Or.inl (by decide))).trans h7
          go_simp
          exact hK _ _ ⟨hG.plain 13 44 _ (by simp [growL]) (by simp [growO]) (by decide) (by decide) (by decide), h5, h7⟩
        · refine keeps_of' rfl ?_
          rintro d T w1 hd ha ⟨⟨hF, hO, hT, hW⟩, h5, h7⟩ K hK
          have e := hF (13, 44, .int .i64 (min (max v 0) 1099511627776)) (by simp [growL]) (ha 13 (by decide))
          simp only at e
          go_simp
          exact hK _ _ ⟨⟨hF.step 14 45 _ (by simp [growL]), hO.step 14 (by simp [growO]), fun j hj => by unfold upd; rw [if_neg (by omega)]; exact hT j hj, hW.build2⟩, h5, h7⟩
        · refine keeps_of' rfl ?_
          rintro d T w1 hd ha ⟨⟨hF, hO, hT, hW⟩, h5, h7⟩ K hK
          have e1 := hF (12, 43, s2) (by simp [growL]) (ha 12 (by decide))
          simp only at e1
          have o7 := ha 14 (by decide)
          have o18 := hO.not (x := 18) (y := 15) (by simp [growO]) hd
          have o21 := hO.not (x := 21) (y := 15) (by simp [growO]) hd
          have o8 := ha 8 (by decide)
          rw [hd, o8, o18, o21] at hW
          obtain ⟨g, g1, g2, _⟩ := hW.b2 o7 rfl
          have hrow := hW.r2
          simp only [Bool.false_eq_true, if_false] at hrow
          obtain ⟨i0, hi0, hz0, hz1, hz2⟩ := info_parts' info3
          refine wp_append_lies w1 (.tmp 43) (.tmp 45) 53 (by rfl) w.heap.size 3 i0 _ 1 8 Tryz.underlying53 hi0 hz0 hz1 hz2 rfl (by omega) s2 k _ ((actOf_eval 53 T 43 (by decide)).trans e1) hrow ⟨g, 0, none⟩ 1 1 [.int .i64 (min (max v 0) 1099511627776)]
            ((actOf_eval 53 T 45 (by decide)).trans g1) (by rfl) (World.news_of_block (cs := #[.int .i64 (min (max v 0) 1099511627776)]) (t := 3) (fr := (0, 0)) g2) (by simp [Value.oneCell']) (by omega) (by have := HK.out; unfold maxLen; omega) (by have := HK.out; omega) hW.hb w1.heap.size rfl ?_
          intro gg cp w2 hown hgrow hat _
          rw [actOf_put 53 T 46 _ (by decide)]
          refine hK _ _ ⟨⟨hF.step 15 46 _ (by simp [growL]), hO.step 15 (by simp [growO, o7, o8]), fun j hj => by unfold upd; rw [if_neg (by omega)]; exact hT j hj, ?_⟩, h5, h7⟩
          have hW2 := hW.append2 hown hgrow hat
          show GrowW _ _ _ _ _ _ _ _ _ _ (d 7) (d 8) (d 14) true (d 18) (d 21) (T 38) (T 39) (T 45) _ w2
          rw [o8, o18, o21]
          exact hW2
        · refine keeps_of' rfl ?_
          rintro d T w1 hd ha ⟨hG, h5, h7⟩ K hK
          have e := hG.1 (0, 31, .pointer (some ⟨w.heap.size, 0, none⟩)) (by simp [growL]) (ha 0 (by decide))
          simp only at e
          go_simp
          exact hK _ _ ⟨hG.plain 16 47 _ (by simp [growL]) (by simp [growO]) (by decide) (by decide) (by decide), h5, h7⟩
        · refine keeps_of' rfl ?_
          rintro d T w1 hd ha ⟨hG, h5, h7⟩ K hK
          have e := hG.1 (16, 47, .pointer (some ⟨w.heap.size, 0, none⟩)) (by simp [growL]) (ha 16 (by decide))
          simp only at e
          go_simp
          exact hK _ _ ⟨hG.plain 17 48 _ (by simp [growL]) (by simp [growO]) (by decide) (by decide) (by decide), h5, h7⟩
        · refine keeps_of' rfl ?_
          rintro d T w1 hd ha ⟨⟨hF, hO, hT, hW⟩, h5, h7⟩ K hK
          have e1 := hF (17, 48, .pointer (some ⟨w.heap.size, 1, none⟩)) (by simp [growL]) (ha 17 (by decide))
          simp only at e1
          have o8 := ha 8 (by decide)
          have o15 := ha 15 (by decide)
          have o5 := ha 5 (by decide)
          have o21 := hO.not (x := 21) (y := 18) (by simp [growO]) hd
          rw [hd, o8, o15, o21] at hW
          have hC := hW.hC
          have hrow := hW.r1
          simp only [if_true, Bool.false_eq_true, if_false] at hC hrow
          obtain ⟨gg, cp, ev, _, _⟩ := hrow.form (by omega)
          go_simp
          refine hK _ _ ⟨⟨hF.run 18 (by simp [growL]), hO.step 18 (by simp [growO, o8, o15, o5]), hT, ?_⟩, h5, h7⟩
          have hW2 := hW.store1
          show GrowW _ _ _ _ _ _ _ _ _ _ (d 7) (d 8) (d 14) (d 15) true (d 21) (T 38) (T 39) (T 45) (T 46) _
          rw [o8, o15, o21, ← ev]
          exact hW2
        · refine keeps_of' rfl ?_
          rintro d T w1 hd ha ⟨hG, h5, h7⟩ K hK
          have e := hG.1 (1, 32, .pointer (some ⟨w.heap.size, 0, none⟩)) (by simp [growL]) (ha 1 (by decide))
          simp only at e
          go_simp
          exact hK _ _ ⟨hG.plain 19 49 _ (by simp [growL]) (by simp [growO]) (by decide) (by decide) (by decide), h5, h7⟩
        · refine keeps_of' rfl ?_
          rintro d T w1 hd ha ⟨hG, h5, h7⟩ K hK
          have e := hG.1 (19, 49, .pointer (some ⟨w.heap.size, 0, none⟩)) (by simp [growL]) (ha 19 (by decide))
          simp only at e
          go_simp
          exact hK _ _ ⟨hG.plain 20 50 _ (by simp [growL]) (by simp [growO]) (by decide) (by decide) (by decide), h5, h7⟩
        · refine keeps_of' rfl ?_
          rintro d T w1 hd ha ⟨⟨hF, hO, hT, hW⟩, h5, h7⟩ K hK
          have e1 := hF (20, 50, .pointer (some ⟨w.heap.size, 2, none⟩)) (by simp [growL]) (ha 20 (by decide))
          simp only at e1
          have o8 := ha 8 (by decide)
          have o15 := ha 15 (by decide)
          have o12 := ha 12 (by decide)
          have o18 := ha 18 (by decide)
          rw [hd, o8, o15, o18] at hW
          have hC := hW.hC
          have hrow := hW.r2
          simp only [if_true, Bool.false_eq_true, if_false] at hC hrow
          obtain ⟨gg, cp, ev, _, _⟩ := hrow.form (by omega)
          go_simp
          refine hK _ _ ⟨⟨hF.run 21 (by simp [growL]), hO.step 21 (by simp [growO, o15, o12, o18]), hT, ?_⟩, h5, h7⟩
          have hW2 := hW.store2
          show GrowW _ _ _ _ _ _ _ _ _ _ (d 7) (d 8) (d 14) (d 15) (d 18) true (T 38) (T 39) (T 45) (T 46) _
          rw [o8, o15, o18, ← ev]
          exact hW2
      · rintro T w2 ⟨⟨_, _, hT, hW⟩, _, _⟩
        have e : actOf 53 T = ⟨#[T 0, T 1, T 2, T 3, T 4, T 5, T 6, T 7, T 8, T 9, T 10, T 11, T 12, T 13, T 14, T 15, T 16, T 17, T 18, T 19, T 20, T 21, T 22, T 23, T 24, T 25, T 26, T 27, T 28, T 29, T 30, T 31, T 32, T 33, T 34, T 35, T 36, T 37, T 38, T 39, T 40, T 41, T 42, T 43, T 44, T 45, T 46, T 47, T 48, T 49, T 50, T 51, T 52], []⟩ := rfl
        rw [e]
        have t0 : T 0 = .int .i64 batch := hT 0 (Or.inl (by decide))
        have t1 : T 1 = .slice (some ⟨b, off, none⟩) n cap := hT 1 (Or.inl (by decide))
        have t2 : T 2 = undef := hT 2 (Or.inl (by decide))
        have t3 : T 3 = undef := hT 3 (Or.inl (by decide))
        have t4 : T 4 = .pointer none := hT 4 (Or.inl (by decide))
        have t5 : T 5 = .pointer (some ⟨w.heap.size, 0, none⟩) := hT 5 (Or.inl (by decide))
        have t6 : T 6 = undef := hT 6 (Or.inl (by decide))
        have t7 : T 7 = .int .i64 (min (max v 0) 1099511627776) := hT 7 (Or.inl (by decide))
        have t8 : T 8 = .int .i64 batch := hT 8 (Or.inl (by decide))
        have t9 : T 9 = .bool false := hT 9 (Or.inl (by decide))
        have t10 : T 10 = .bool false := hT 10 (Or.inl (by decide))
        have t11 : T 11 = .int .i64 batch := hT 11 (Or.inl (by decide))
        have t12 : T 12 = .bool false := hT 12 (Or.inl (by decide))
        have t13 : T 13 = .bool false := hT 13 (Or.inl (by decide))
        have t14 : T 14 = .bool false := hT 14 (Or.inl (by decide))
        have t15 : T 15 = .slice (some ⟨b, off, none⟩) n cap := hT 15 (Or.inl (by decide))
        have t16 : T 16 = .int .i64 n := hT 16 (Or.inl (by decide))
        have t17 : T 17 = .bool false := hT 17 (Or.inl (by decide))
        have t18 : T 18 = .bool false := hT 18 (Or.inl (by decide))
        have t19 : T 19 = .int .i64 batch := hT 19 (Or.inl (by decide))
        have t20 : T 20 = .agg #[.int .i64 batch, .slice none 0 0, .slice none 0 0] := hT 20 (Or.inl (by decide))
        have t21 : T 21 = .pointer (some ⟨w.heap.size, 0, none⟩) := hT 21 (Or.inl (by decide))
        have t22 : T 22 = .slice (some ⟨b, off, none⟩) n cap := hT 22 (Or.inl (by decide))
        have t23 : T 23 = .int .i64 n := hT 23 (Or.inl (by decide))
        have t24 : T 24 = .int .i64 k := hT 24 (Or.inl (by decide))
        have t25 : T 25 = .bool true := hT 25 (Or.inl (by decide))
        have t26 : T 26 = .pointer (some ⟨b, off + k, none⟩) := hT 26 (Or.inl (by decide))
        have t27 : T 27 = .int .i64 v := hT 27 (Or.inl (by decide))
        have t28 : T 28 = .int .i64 v := hT 28 (Or.inl (by decide))
        have t29 : T 29 = .int .i64 (max v 0) := hT 29 (Or.inl (by decide))
        have t30 : T 30 = .int .i64 (min (max v 0) 1099511627776) := hT 30 (Or.inl (by decide))
        rw [t0, t1, t2, t3, t4, t5, t6, t7, t8, t9, t10, t11, t12, t13, t14, t15, t16, t17, t18, t19, t20, t21, t22, t23, t24, t25, t26, t27, t28, t29, t30]
        clear t0 t1 t2 t3 t4 t5 t6 t7 t8 t9 t10 t11 t12 t13 t14 t15 t16 t17 t18 t19 t20 t21 t22 t23 t24 t25 t26 t27 t28 t29 t30
        have t52 : T 52 = undef := hT 52 (Or.inr (by decide))
        clear hT
        have hW' := Lib.hid hW
        clear hW
        go_wp2
        obtain ⟨gbe, gbC, gb, gC, gr1, gr2, gap, _, _⟩ := hW'.out
        simp only [if_true] at gC gr1 gr2 gap
        have hnext := take_next HN.out hlt HV.out
        refine ⟨⟨k + 1, by omega, by simp, ⟨T 39, T 46, Nat.le_refl _, gC, ?_, ?_, gap, fun h => (by rw [hnext.2] at h; omega)⟩, HB.out.trans gbe⟩, by simp only [intOf]; omega⟩
        · rw [hnext.2, hnext.1]; exact gr1
        · rw [hnext.2, hnext.1]; exact gr2
    · have hk' : k = n := by omega
      have hltz : ¬ (k : Int) < (n : Int) := by omega
      subst hk'
      go_wp2
      go_ret
      refine ⟨w.heap.size, rfl, ?_, HB.out⟩
      have h := HCo.out
      rw [List.take_of_length_le (by have := HN.out; simp; omega)] at h
      exact h
end Go.Proofs.YtphmfaddgpjndaaGreat

/- Contracts of package count, of a count that lies with its two rows. -/
namespace Go.Proofs.YtphmfaddgpjndaaGreat
open Go.ChangeShapes Go.WideShapes Go.RowKit

/-- a row of n whole numbers lies in a block -/
def RowIn (w : World) (g n : Nat) (f : Nat → Int) : Prop := ∃ c : Array Value, obj w g = some (.cells c 3 (0, 0)) ∧ ∀ j, j < n → nth c j = some (.int .i64 (f j))
/-- a count of n pages lies in the blocks C, g1, g2 -/
structure CountIn (w : World) (base C g1 g2 : Nat) (batch : Int) (n cap1 cap2 : Nat) (now kept : Nat → Int) : Prop where
  hC : obj w C = some (.cells #[.int .i64 batch, .slice (some ⟨g1, 0, none⟩) n cap1, .slice (some ⟨g2, 0, none⟩) n cap2] 137 (0, 0))
  r1 : RowIn w g1 n now
  r2 : RowIn w g2 n kept
  c1 : C ≠ g1
  c2 : C ≠ g2
  gg : g1 ≠ g2
  bC : base ≤ C
  b1 : base ≤ g1
  b2 : base ≤ g2

section
variable {w : World} {base C g1 g2 n cap1 cap2 : Nat} {batch : Int} {now kept : Nat → Int}
theorem CountIn.cell1 (h : CountIn w base C g1 g2 batch n cap1 cap2 now kept) (j : Nat) (hj : j < n) : cellAt (obj w g1) j = some (.int .i64 (now j)) := by
  obtain ⟨c, h1, h2⟩ := h.r1
  rw [h1]; exact h2 j hj
theorem CountIn.cell2 (h : CountIn w base C g1 g2 batch n cap1 cap2 now kept) (j : Nat) (hj : j < n) : cellAt (obj w g2) j = some (.int .i64 (kept j)) := by
  obtain ⟨c, h1, h2⟩ := h.r2
  rw [h1]; exact h2 j hj

/-! ### a page that there isn't -/
set_option maxHeartbeats 400000 in
theorem chas_in (h : CountIn w base C g1 g2 batch n cap1 cap2 now kept) (p : Int) (hp : 0 ≤ p) : Calls Tryz.prog 160 #[.pointer (some ⟨C, 0, none⟩), .int .i64 p] w fun e w' => e = .returned (.bool (decide (p < n))) ∧ w = w' := by
  have hC := h.hC
  clear h
  go_enter Tryz.func160, Tryz.ntmps160
  go_wp2
  go_ret
  exact ⟨rfl, rfl⟩
set_option maxHeartbeats 400000 in
theorem chas_empty {s2 : Value} (hC : obj w C = some (.cells #[.int .i64 batch, .slice none 0 0, s2] 137 (0, 0))) (p : Int) (hp : 0 ≤ p) : Calls Tryz.prog 160 #[.pointer (some ⟨C, 0, none⟩), .int .i64 p] w fun e w' => e = .returned (.bool false) ∧ w = w' := by
  have h : ¬ p < 0 := by omega
  go_enter Tryz.func160, Tryz.ntmps160
  go_wp2
  go_ret
  exact ⟨by simp [h], rfl⟩

/-- there is no such page -/
def NoPage (w : World) (c : Value) (p : Int) : Prop := Calls Tryz.prog 160 #[c, .int .i64 p] w fun e w' => e = .returned (.bool false) ∧ w = w'
/-! ### a page that there is -/
set_option maxRecDepth 100000 in
set_option maxHeartbeats 800000 in
theorem lag_in (h : CountIn w base C g1 g2 batch n cap1 cap2 now kept) (p : Nat) (hp : p < n) (hb : IntKind.i64.wrap (now p - kept p) = now p - kept p) :
    Calls Tryz.prog 161 #[.pointer (some ⟨C, 0, none⟩), .int .i64 p] w fun e w' => e = .returned (.int .i64 (now p - kept p)) ∧ ∃ k, w' = w.drewN k := by
  have H := Lib.hid (chas_in h p (by omega))
  have hC := h.hC
  have c1 := h.cell1 p hp
  have c2 := h.cell2 p hp
  have hd : decide ((p : Int) < n) = true := decide_eq_true (by omega)
  have hz : (0 : Int) ≤ (p : Int) := by omega
  have hz2 : (p : Int) < (n : Int) := by omega
  clear h
  go_enter Tryz.func161, Tryz.ntmps161
  go_wp2_with (go_at_call 160; refine H.out.mono ?_; rintro _ _ ⟨rfl, rfl⟩)
  go_quiet (fail)
  go_wp2

  go_ret
  exact ⟨rfl, _, rfl⟩

theorem CountIn.drewN (h : CountIn w base C g1 g2 batch n cap1 cap2 now kept) (k : Nat) : CountIn (w.drewN k) base C g1 g2 batch n cap1 cap2 now kept :=
  ⟨h.hC, h.r1, h.r2, h.c1, h.c2, h.gg, h.bC, h.b1, h.b2⟩
/-- one of a row written -/
def updI (f : Nat → Int) (p : Nat) (a : Int) : Nat → Int := fun j => if j = p then a else f j
theorem RowIn.set {w : World} {g n : Nat} {f : Nat → Int} (h : RowIn w g n f) (p : Nat) (a : Int) (hp : p < n) : RowIn (w.setCell ⟨g, p, none⟩ (.int .i64 a)) g n (updI f p a) := by
  obtain ⟨c, h1, h2⟩ := h
  refine ⟨c.setIfInBounds p (.int .i64 a), by rw [obj_setCell_eq, h1]; rfl, fun j hj => ?_⟩
  unfold updI nth
  by_cases hjp : j = p
  · subst hjp
    have : j < c.size := by
      have := h2 j hj
      unfold nth at this
      exact (Array.getElem?_eq_some_iff.1 this).1
    rw [if_pos rfl, Array.getElem?_setIfInBounds_self_of_lt this]
  · rw [if_neg hjp, Array.getElem?_setIfInBounds_ne (Ne.symm hjp)]; exact h2 j hj
theorem RowIn.far {w : World} {g n : Nat} {f : Nat → Int} (h : RowIn w g n f) (a : Addr) (v : Value) (hg : g ≠ a.block) : RowIn (w.setCell a v) g n f := by
  obtain ⟨c, h1, h2⟩ := h
  exact ⟨c, by rw [obj_setCell_ne w a v g hg]; exact h1, h2⟩
theorem CountIn.set1 (h : CountIn w base C g1 g2 batch n cap1 cap2 now kept) (p : Nat) (a : Int) (hp : p < n) : CountIn (w.setCell ⟨g1, p, none⟩ (.int .i64 a)) base C g1 g2 batch n cap1 cap2 (updI now p a) kept :=
  ⟨by rw [obj_setCell_ne w _ _ C h.c1]; exact h.hC, h.r1.set p a hp, h.r2.far _ _ h.gg.symm, h.c1, h.c2, h.gg, h.bC, h.b1, h.b2⟩
theorem CountIn.set2 (h : CountIn w base C g1 g2 batch n cap1 cap2 now kept) (p : Nat) (a : Int) (hp : p < n) : CountIn (w.setCell ⟨g2, p, none⟩ (.int .i64 a)) base C g1 g2 batch n cap1 cap2 now (updI kept p a) :=
  ⟨by rw [obj_setCell_ne w _ _ C h.c2]; exact h.hC, h.r1.far _ _ h.gg, h.r2.set p a hp, h.c1, h.c2, h.gg, h.bC, h.b1, h.b2⟩
theorem CountIn.below (h : CountIn w base C g1 g2 batch n cap1 cap2 now kept) {w' : World} (hb : Below w.heap.size w w') : CountIn w' base C g1 g2 batch n cap1 cap2 now kept := by
  obtain ⟨c, h1, h2⟩ := h.r1
  obtain ⟨d, h3, h4⟩ := h.r2
  exact ⟨keep hb h.hC, ⟨c, keep hb h1, h2⟩, ⟨d, keep hb h3, h4⟩, h.c1, h.c2, h.gg, h.bC, h.b1, h.b2⟩
theorem updI_same (f : Nat → Int) (p : Nat) (a : Int) : updI f p a p = a := by simp [updI]

@[go_sem] theorem obj_mk (w : World) (t : Nat → Question → Nat) (k : Nat) (o : Os) (u : Array (Nat × ByteArray)) (g : Nat) : obj ⟨w.heap, t, k, o, u⟩ g = obj w g := rfl

set_option maxRecDepth 100000 in
set_option maxHeartbeats 1600000 in
theorem note_in (h : CountIn w base C g1 g2 batch n cap1 cap2 now kept) (p : Nat) (hp : p < n) (hw1 : IntKind.i64.wrap (now p + 1) = now p + 1) (hw2 : IntKind.i64.wrap (now p + 1 - kept p) = now p + 1 - kept p) :
    Calls Tryz.prog 139 #[.pointer (some ⟨C, 0, none⟩), .int .i64 p] w fun e w' => e = .returned (.tuple #[.int .i64 (now p + 1), .bool (decide (batch ≤ now p + 1 - kept p))]) ∧
      CountIn w' base C g1 g2 batch n cap1 cap2 (updI now p (now p + 1)) (if batch ≤ now p + 1 - kept p then updI kept p (now p + 1) else kept) ∧ Kept [g1, g2] w w' := by
  have H := Lib.hid (chas_in h p (by omega))
  have hC := h.hC
  have c1 := h.cell1 p hp
  have i1 : iceAt (obj w g1) p = false := by
    obtain ⟨c, h1, _⟩ := h.r1
    rw [h1]; exact iceAt_some ..
  have n1 := h.c1
  have hd : decide ((p : Int) < n) = true := decide_eq_true (by omega)
  have hz : (0 : Int) ≤ (p : Int) := by omega
  have hz2 : (p : Int) < (n : Int) := by omega
  have hA := Lib.hid h
  clear h
  generalize hv : now p + 1 = a at hw1 hw2
  have HV := Lib.hid hv
  go_enter Tryz.func139, Tryz.ntmps139
  go_wp2_with (go_at_call 160; refine H.out.mono ?_; rintro _ _ ⟨rfl, rfl⟩)
  have h1 := hA.out.set1 p a hp
  have hb1 : Kept [g1, g2] w (w.setCell ⟨g1, p, none⟩ (.int .i64 a)) := (Kept.refl _ _).setCell _ (Or.inl (by simp))
  have L : ∀ k, Calls Tryz.prog 161 #[.pointer (some ⟨C, 0, none⟩), .int .i64 p] ((w.setCell ⟨g1, p, none⟩ (.int .i64 a)).drewN k) fun e w' => e = .returned (.int .i64 (a - kept p)) ∧ ∃ m, w' = ((w.setCell ⟨g1, p, none⟩ (.int .i64 a)).drewN k).drewN m := by
    intro k
    have := lag_in (h1.drewN k) p hp (by rw [updI_same]; exact hw2)
    rw [updI_same] at this
    exact this
  have L' := Lib.hid L
  clear L hC c1 i1
  generalize w.setCell ⟨g1, p, none⟩ (.int .i64 a) = w1 at h1 hb1 L'
  have hB1 := Lib.hid hb1
  clear hb1
  have hC := h1.hC
  have c1 := h1.cell1 p hp
  rw [updI_same] at c1
  have i2 : iceAt (obj w1 g2) p = false := by
    obtain ⟨c, h1, _⟩ := h1.r2
    rw [h1]; exact iceAt_some ..
  have c2 := h1.cell2 p hp
  have hA1 := Lib.hid h1
  have n2 := h1.c2
  have n3 := h1.gg
  clear h1
  by_cases due : batch ≤ a - kept p
  · have hdue : decide (a - kept p ≥ batch) = true := decide_eq_true due
    go_quiet ((go_at_call 161; exact Calls.quiet_of (L'.out _)))
    go_wp2
    go_still_tail 13, (by kernel_rfl)
    go_wp2
    go_ret2
    refine ⟨rfl, ?_, ?_⟩
    · exact (hA1.out.drewN (nq + 1)).set2 p a hp
    · exact (hB1.out.drawn (nq + 1)).setCell _ (Or.inl (by simp))
  · have hdue : decide (a - kept p ≥ batch) = false := decide_eq_false due
    go_quiet ((go_at_call 161; exact Calls.quiet_of (L'.out _)))
    go_wp2
    go_ret2
    refine ⟨rfl, ?_, ?_⟩
    · exact hA1.out.drewN nq
    · exact hB1.out.drawn nq
end
end Go.Proofs.YtphmfaddgpjndaaGreat

/- Contracts: slices.Clone, count.All, count.Page; a count as New makes it. -/
namespace Go.Proofs.YtphmfaddgpjndaaGreat
open Go.ChangeShapes Go.WideShapes Go.RowKit

theorem ints_len (l : List Int) : (ints l).length = l.length := by simp [ints]
theorem ints_get {n : Nat} {f : Nat → Int} (j : Nat) (u : Value) (h : (ints ((List.range n).map f))[j]? = some u) : j < n ∧ u = .int .i64 (f j) := by
  unfold ints at h
  rw [List.map_map, List.getElem?_map] at h
  by_cases hj : j < n
  · rw [List.getElem?_range hj] at h
    simp at h
    exact ⟨hj, h.symm⟩
  · rw [List.getElem?_eq_none (by simp; omega)] at h; cases h
theorem row_of_owns {w : World} {base : Nat} {v : Value} {l : List Int} {n : Nat} (h : w.ownsRow base 3 1 v n (ints l)) (hn : 0 < n) (hl : n = l.length) : ∃ g cap, v = .slice (some ⟨g, 0, none⟩) n cap ∧ base ≤ g ∧ RowIn w g n fun j => l.getD j 0 := by
  rcases h.2 with ⟨_, h0⟩ | ⟨g, cap, cur, rfl, hb, hg, _, _, _, ht⟩
  · omega
  · refine ⟨g, cap, rfl, hb, cur, hg, fun j hj => ?_⟩
    have h1 : (cur.toList.take (n * 1))[j]? = (ints l)[j]? := by rw [ht]
    rw [List.getElem?_take, if_pos (by omega)] at h1
    unfold nth
    rw [← Array.getElem?_toList, h1]
    unfold ints
    show _ = some (Value.int .i64 (l.getD j 0))
    rw [List.getElem?_map, List.getElem?_eq_getElem (by omega), List.getD_eq_getElem?_getD, List.getElem?_eq_getElem (by omega)]
    rfl
/-- a count as New makes it, of one page or more -/
theorem CountAt.countIn {w : World} {base C : Nat} {batch : Int} {l k : List Int} (h : CountAt w base C batch l k) (hl : 0 < l.length) (hk : k.length = l.length) :
    ∃ g1 g2 cap1 cap2, CountIn w base C g1 g2 batch l.length cap1 cap2 (fun j => l.getD j 0) (fun j => k.getD j 0) := by
  obtain ⟨s1, s2, hb, hC, r1, r2, ap, _⟩ := h
  obtain ⟨g1, cap1, rfl, b1, q1⟩ := row_of_owns r1 hl rfl
  rw [hk] at r2
  obtain ⟨g2, cap2, rfl, b2, q2⟩ := row_of_owns r2 hl hk.symm
  obtain ⟨a1, a2, a3⟩ := ap
  have a1' : some g1 ≠ some C := a1
  have a2' : some g2 ≠ some C := a2
  have a3' : some g1 = none ∨ some g1 ≠ some g2 := a3
  refine ⟨g1, g2, cap1, cap2, hC, q1, q2, ?_, ?_, ?_, hb, b1, b2⟩
  · intro e; subst e; exact a1' rfl
  · intro e; subst e; exact a2' rfl
  · intro e; subst e
    rcases a3' with h | h
    · cases h
    · exact h rfl
/-- a count as New makes it, of no page -/
theorem CountAt.empty {w : World} {base C : Nat} {batch : Int} {k : List Int} (h : CountAt w base C batch [] k) : ∃ s2, obj w C = some (.cells #[.int .i64 batch, .slice none 0 0, s2] 137 (0, 0)) := by
  obtain ⟨s1, s2, hb, hC, r1, r2, ap, h0⟩ := h
  rw [h0 rfl] at hC
  exact ⟨s2, hC⟩

set_option maxRecDepth 100000 in
set_option maxHeartbeats 800000 in
theorem clone_in (w : World) (g n cap : Nat) (f : Nat → Int) (h : RowIn w g n f) (h0 : 0 < n) (hn : n ≤ 1000000) :
    Calls Tryz.prog 85 #[.slice (some ⟨g, 0, none⟩) n cap] w fun e w' => ∃ g' cap', e = .returned (.slice (some ⟨g', 0, none⟩) n cap') ∧ RowIn w' g' n f ∧ Below w.heap.size w w' := by
  obtain ⟨i0, hi0, hz0, hz1, hz2⟩ := info_parts' info3
  have hcell : ∀ j u, (ints ((List.range n).map f))[j]? = some u → (w.alloc (.cells #[] 3)).cell? ((⟨g, 0, none⟩ : Addr).add j) = some u := by
    intro j u hu
    obtain ⟨hj, rfl⟩ := ints_get j u hu
    obtain ⟨c, h1, h2⟩ := h
    rw [addr_add, Nat.zero_add, cell?_heap, keepA _ h1]
    exact h2 j hj
  have hmade := World.ownsRow_made (e := 3) (size := 1) w #[] 0 (Nat.le_refl _) (by unfold maxLen; omega) rfl
  have hH := Lib.hid hcell
  have hM := Lib.hid hmade
  clear hcell hmade h
  have hnil : ∀ w : World, (binOp .eql 53 (.slice (some ⟨g, 0, none⟩) n cap) (.slice none 0 0)).run Tryz.prog w = .ok (.bool false) w := fun w => Lib.run_eql_slice_nil w 53 3 _ _ _ _ _ Tryz.underlying53
  go_enter Tryz.func85, Tryz.ntmps85
  go_wp2_with (at_builtin; refine wpList_append_lies _ rfl (.tmp 5) (.tmp 6) 53 rfl w.heap.size 3 i0 _ 1 8 Tryz.underlying53 hi0 hz0 hz1 hz2 rfl (by omega) (.slice (some ⟨w.heap.size, 0, none⟩) 0 0) 0 [] rfl hM.out ⟨g, 0, none⟩ n cap (ints ((List.range n).map f)) rfl (by simp [ints]) hH.out (by simp [ints, Value.oneCell']) h0 (by unfold maxLen; omega) (by omega) (by simp) (w.heap.size + 1) (by simp) ?_; intro g' cap' w1 hown hgrow hat hlt)
  go_ret
  have hr : w1.ownsRow w.heap.size 3 1 (.slice (some ⟨g', 0, none⟩) n cap') n (ints ((List.range n).map f)) := by simpa using hown
  obtain ⟨g2, cap2, e, _, hrow⟩ := row_of_owns hr h0 (by simp)
  obtain ⟨rfl, rfl⟩ : g' = g2 ∧ cap' = cap2 := by simpa using e
  refine ⟨g', cap', rfl, ?_, ?_⟩
  · obtain ⟨c, h1, h2⟩ := hrow
    exact ⟨c, h1, fun j hj => by rw [h2 j hj]; simp [hj]⟩
  · exact ((Below.refl _ _).alloc (Nat.le_refl _) _).grown hgrow (by simp) fun j hj => by
      have : w.heap.size = j := by simpa [Value.ownBlock] using hj
      omega

/-! ### all counts -/
set_option maxHeartbeats 400000 in
theorem all_in {w : World} {base C g1 g2 n cap1 cap2 : Nat} {batch : Int} {now kept : Nat → Int} (h : CountIn w base C g1 g2 batch n cap1 cap2 now kept) (h0 : 0 < n) (hn : n ≤ 1000000) :
    Calls Tryz.prog 50 #[.pointer (some ⟨C, 0, none⟩)] w fun e w' => ∃ g' cap', e = .returned (.slice (some ⟨g', 0, none⟩) n cap') ∧ RowIn w' g' n now ∧ Below w.heap.size w w' := by
  have hC := h.hC
  have K := Lib.hid (clone_in w g1 n cap1 now h.r1 h0 hn)
  clear h
  go_enter Tryz.func50, Tryz.ntmps50
  go_wp2_with fail
  refine K.out.mono ?_
  rintro _ w1 ⟨g', cap', rfl, hr, hb⟩
  go_wp2
  go_ret
  exact ⟨g', cap', rfl, hr, hb⟩
set_option maxHeartbeats 400000 in
theorem all_empty {w : World} {C : Nat} {batch : Int} {s2 : Value} (hC : obj w C = some (.cells #[.int .i64 batch, .slice none 0 0, s2] 137 (0, 0))) :
    Calls Tryz.prog 50 #[.pointer (some ⟨C, 0, none⟩)] w fun e w' => e = .returned (.slice none 0 0) ∧ w = w' := by
  have hnil : ∀ w : World, (binOp .eql 53 (.slice none 0 0) (.slice none 0 0)).run Tryz.prog w = .ok (.bool true) w := fun w => Lib.run_eql_slice_nil w 53 3 _ _ _ _ _ Tryz.underlying53
  go_enter Tryz.func50, Tryz.ntmps50
  go_wp2
  go_ret
  exact ⟨rfl, rfl⟩
set_option maxRecDepth 100000 in
set_option maxHeartbeats 800000 in
/-- of no page -/
theorem new_nil (batch : Int) (cap : Nat) (w : World) (hb1 : 1 ≤ batch) (hb2 : batch ≤ 100) :
    Calls Tryz.prog 100 #[.int .i64 batch, .slice none 0 cap] w fun e w' => ∃ C, e = .returned (.pointer (some ⟨C, 0, none⟩)) ∧ CountAt w' w.heap.size C batch [] [] ∧ Below w.heap.size w w' := by
  have d1 : decide (batch < 1) = false := decide_eq_false (by omega)
  have d2 : decide (100 < batch) = false := decide_eq_false (by omega)
  go_enter Tryz.func100, Tryz.ntmps100
  go_wp2
  go_loopw [24] (fun i wr => i = .int .i64 0 ∧ wr = w.alloc (.cells #[.int .i64 batch, .slice none 0 0, .slice none 0 0] 137)) (fun _ _ => 0)
  case atStart => exact ⟨rfl, rfl⟩
  case round =>
    obtain ⟨rfl, rfl⟩ := hrel
    go_wp2
    go_ret
    exact ⟨w.heap.size, rfl, ⟨.slice none 0 0, .slice none 0 0, Nat.le_refl _, newA w _, World.ownsRow_nil _ _ _ _, World.ownsRow_nil _ _ _ _, ⟨by simp [Value.ownBlock], by simp [Value.ownBlock], Or.inl rfl⟩, fun _ => rfl⟩, (Below.refl _ _).alloc (Nat.le_refl _) _⟩

end Go.Proofs.YtphmfaddgpjndaaGreat
