/- Contracts and laws of their own, used by the claim's theorem: heap.free, heap.Do, tower.Do where the power goes at the first write. (Printed by wip/d/genZW.py.) -/
import Derived.Test.YtphmfaddgpjndaaGreatPk7
import Derived.ProofKit
import Derived.OpenShut
import Derived.Carry
import Derived.Deep.Slices
namespace Go.Proofs.YtphmfaddgpjndaaGreat
open Go.ChangeShapes Go.WideShapes Go.RowKit Go.Maps

section
variable {w : World} {b : HB} {p : Pl} {puts : Nat} {m : MS} {now kept : Nat → Int} {B : Bs}
theorem HeapC.below (h : HeapC w b p puts m now kept) {w' : World} (k : Below w.heap.size w w') : HeapC w' b p puts m now kept :=
  { h with hH := h.hH.kept (below_kept k) (by simp), hG := h.hG.below k }
/-- what is left when the power is gone -/
def Gone (w w' : World) (b : HB) (m : MS) : Prop := ∃ m', MemAt w' b.Mb b.Cb m' ∧ Cutted m m' ∧ Kept [b.Mb, b.Cb, b.TU, b.HP] w w'
theorem Gone.after {w1 w' : World} (hb : Below w.heap.size w w1) (h : Gone w1 w' b m) : Gone w w' b m := by
  obtain ⟨m', h1, h2, h3⟩ := h
  exact ⟨m', h1, h2, (Kept.of_below hb).trans h3⟩
theorem Gone.door {w' w2 : World} {g : Nat} (h : Gone w w' b m) (hg : w.heap.size ≤ g) (h1 : b.Mb ≠ g) (h2 : b.Cb ≠ g) (k : Kept [g] w' w2) : Gone w w2 b m := by
  obtain ⟨m', h3, h4, h5⟩ := h
  exact ⟨m', h3.kept k (by simpa using h1) (by simpa using h2), h4, h5.next k (fun x hx => by simp at hx; subst hx; exact Or.inr hg)⟩
set_option maxRecDepth 100000 in
set_option maxHeartbeats 3200000 in
theorem hfree_cut (h : HeapC w b p puts m now kept) (hB : B.Ok (p.L * 8)) (he : Enc (hW m p.L) B) (hr : IntKind.i64.wrap (m.reg 2) = m.reg 2) (off : Int) {i0 : Nat} (hi0 : i0 < B.n) (hf0 : findP off (B.at i0, B.sz i0, B.us i0) = true) (hro0 : m.reg 2 ≠ off) :
    Calls Tryz.prog 74 #[.pointer (some ⟨b.HP, 0, none⟩), .int .i64 off] w fun e w' => e = died 2 ∧ Gone w w' b m := by
  have K0 := Lib.hid (hw_any h.hH h.hp h.hG h.gd h.r1)
  have H0 := Lib.hid h
  have HB := Lib.hid hB
  have HE := Lib.hid he
  have HRT := Lib.hid hr
  clear h hB he hr
  go_enter Tryz.func74, Tryz.ntmps74
  go_wp2_with fail
  refine K0.out.mono ?_
  rintro _ w1 ⟨v, rfl, hs, hb⟩
  have HB1 := Lib.hid hb
  have HS1 := Lib.hid hs
  have H1 := Lib.hid (H0.out.below hb)
  have KI := Lib.hid (ifree_any (B := 0) (HS1.out.mono (Nat.zero_le _)) HB.out HE.out off)
  obtain ⟨ao, cap, rfl⟩ := hs.form
  clear hs hb K0
  go_wp2_with fail
  refine KI.out.mono ?_
  rintro _ w3 ⟨v3, e', rfl, hb3, hcase⟩
  have HB3 := Lib.hid (HB1.out.trans (hb3.mono HB1.out.size))
  have H3 := Lib.hid (H1.out.below hb3)
  have HS3 := Lib.hid (HS1.out.below hb3)
  have HB13 := Lib.hid HB1.out.size
  clear hb3 KI
  rcases hcase with ⟨rfl, hno⟩ | ⟨rfl, i, hi, hf, hsl⟩
  · rw [hno i0 hi0] at hf0; cases hf0
  · have KR := Lib.hid (root_any H3.out.hH H3.out.hG.hT.hM H3.out.gd.up HRT.out)
    have HI := Lib.hid (And.intro hi hf)
    obtain ⟨ao3, cap3, rfl⟩ := hsl.form
    have htm := toM_le B hi
    have hfm := fromM_le B i
    have hbd := HB.out.at_le htm.2.1
    have hlt := HB.out.lt (i := fromM B i) (by omega)
    have KC := Lib.hid (hcommit_cut H3.out HS3.out (hsl.mono (B' := w.heap.size) HB13.out) (fun j _ => rfl) (by omega) (by omega))
    have KCH := Lib.hid (change_any H3.out.hH H3.out.hG.hG H3.out.hG.hT.hM H3.out.gd.up H3.out.r1)
    clear hsl hi hf htm hfm hbd hlt
    have hro := hro0
    have hro2 : (m.reg 2 == off) = false := by simp; exact hro
    go_wp2_with fail
    refine (must_ok _).mono ?_
    rintro _ _ ⟨rfl, rfl⟩
    go_wp2_with fail
    refine KR.out.mono ?_
    rintro _ _ ⟨rfl, rfl⟩
    go_wp2_with fail
    refine KCH.out.mono ?_
    rintro _ _ ⟨rfl, rfl⟩
    go_wp2_with fail
    refine KC.out.mono ?_
    rintro _ w4 ⟨m4, rfl, h1, h2, h3⟩
    exact ⟨rfl, rfl, m4, h1, h2, (Kept.of_below HB3.out).trans h3⟩
set_option maxRecDepth 100000 in
set_option maxHeartbeats 3200000 in
theorem do_free_cut (h : HeapC w b p puts m now kept) (hlts : ∀ x ∈ [b.HP, b.Mb, b.Cb, b.TU], x < w.heap.size) (hB : B.Ok (p.L * 8)) (he : Enc (hW m p.L) B) (hr : IntKind.i64.wrap (m.reg 2) = m.reg 2) (off n mask : Int) (d : Value) {i0 : Nat} (hi0 : i0 < B.n) (hf0 : findP off (B.at i0, B.sz i0, B.us i0) = true) (hro0 : m.reg 2 ≠ off) :
    Calls Tryz.prog 43 #[.pointer (some ⟨b.HP, 0, none⟩), opV 2 off n mask d] w fun e w' => e = .returned (ansV 2 0 (.slice none 0 0)) ∧ Gone w w' b m := by
  have hb1 : Below w.heap.size w (w.alloc (.cells #[.int .i64 2, .int .i64 off, .int .i64 n, .int .i64 mask, d] 35)) := (Below.refl _ _).alloc (Nat.le_refl _) _
  have hb2 := hb1.alloc hb1.size (.cells #[.int .i64 0, .int .i64 0, .slice none 0 0] 32)
  have HBLK := Lib.hid hlts
  have K := Lib.hid (hfree_cut (h.below hb2) hB he hr off hi0 hf0 hro0)
  have HB2 := Lib.hid hb2
  have hmf := run_makeFunc
  have hc2 := newA (w.alloc (.cells #[.int .i64 2, .int .i64 off, .int .i64 n, .int .i64 mask, d] 35)) (.cells #[.int .i64 0, .int .i64 0, .slice none 0 0] 32)
  have HC2 := Lib.hid hc2
  have HSZ : Hid (w.heap.size + 1 < ((w.alloc (.cells #[.int .i64 2, .int .i64 off, .int .i64 n, .int .i64 mask, d] 35)).alloc (.cells #[.int .i64 0, .int .i64 0, .slice none 0 0] 32)).heap.size) := Lib.hid (by simp)
  unfold opV
  clear h hB he hf0 hb1 hb2 hc2
  go_enter_defers Tryz.func43, Tryz.ntmps43
  go_wp2_with fail
  have HG : Hid (obj ((w.alloc (.cells #[.int .i64 2, .int .i64 off, .int .i64 n, .int .i64 mask, d] 35)).alloc (.cells #[.int .i64 0, .int .i64 0, .slice none 0 0] 32)) (w.heap.size + 1) = some (.cells #[.int .i64 0, .int .i64 0, .slice none 0 0] 32 (0, 0))) := Lib.hid (by have := HC2.out; simpa using this)
  have HN : Hid (w.heap.size + 1 ∉ [b.Mb, b.Cb, b.TU, b.HP] ∧ w.heap.size ≤ w.heap.size + 1) := Lib.hid (by
    refine ⟨fun hx => ?_, by omega⟩
    have := HBLK.out (w.heap.size + 1) (by simp at hx ⊢; omega)
    omega)
  have HNB : Hid (∀ x ∈ [b.HP, b.Mb, b.Cb, b.TU], x ≠ w.heap.size + 1) := Lib.hid (fun x hx => by have := HBLK.out x hx; omega)
  clear HC2
  generalize (w.alloc (.cells #[.int .i64 2, .int .i64 off, .int .i64 n, .int .i64 mask, d] 35)).alloc (.cells #[.int .i64 0, .int .i64 0, .slice none 0 0] 32) = w2 at K HB2 HG HSZ ⊢
  generalize w.heap.size + 1 = g at HG HN HNB HSZ ⊢
  refine K.out.mono ?_
  rintro _ w3 ⟨rfl, hd⟩
  obtain ⟨m3, h31, h32, h33⟩ := hd
  have HG3 := Lib.hid (h33.keep HG.out HN.out.1)
  have HD : Hid (Gone w2 w3 b m) := Lib.hid ⟨m3, h31, h32, h33⟩
  clear h31 h32 h33 K HG
  exact door_pan _ g _ _ _ 2 w3 rfl HG3.out fun w4 hk => ⟨rfl, (HD.out.after HB2.out).door HN.out.2 (HNB.out _ (by simp)) (HNB.out _ (by simp)) hk⟩
set_option maxRecDepth 100000 in
set_option maxHeartbeats 3200000 in
theorem does_free_cut {TW : Nat} {cost : Int} (ht : TwAt w TW p b.Mb (.pointer (some ⟨b.HP, 0, none⟩)) cost) (h : HeapC w b p puts m now kept) (hlts : ∀ x ∈ [b.HP, b.Mb, b.Cb, b.TU], x < w.heap.size) (hB : B.Ok (p.L * 8)) (he : Enc (hW m p.L) B) (hr : IntKind.i64.wrap (m.reg 2) = m.reg 2) (off n mask : Int) {i0 : Nat} (hi0 : i0 < B.n) (hf0 : findP off (B.at i0, B.sz i0, B.us i0) = true) (hro0 : m.reg 2 ≠ off) :
    Calls Tryz.prog 32 #[.pointer (some ⟨TW, 0, none⟩), opV 2 off n mask (.slice none 0 0)] w fun e w' => e = .returned (ansV 2 0 (.slice none 0 0)) ∧ Gone w w' b m := by
  have hT : obj w TW = some (.cells (twC p b.Mb (.pointer (some ⟨b.HP, 0, none⟩)) cost) 69 (0, 0)) := ht
  have hlt := lt_of_obj hT
  have hb1 : Below w.heap.size w (w.alloc (.cells #[.int .i64 2, .int .i64 off, .int .i64 n, .int .i64 mask, .slice none 0 0] 35)) := (Below.refl _ _).alloc (Nat.le_refl _) _
  have hb2 := hb1.alloc hb1.size (.cells #[.int .i64 0, .int .i64 0, .slice none 0 0] 32)
  have HB2 := Lib.hid hb2
  have HBLK := Lib.hid hlts
  have KD := Lib.hid (fun w' (hb : Below w.heap.size w w') => do_free_cut (h.below hb) (fun x hx => Nat.lt_of_lt_of_le (hlts x hx) hb.size) hB he hr off n mask (.slice none 0 0) hi0 hf0 hro0)
  have HT2 := keepA (.cells #[.int .i64 0, .int .i64 0, .slice none 0 0] 32) (keepA (.cells #[.int .i64 2, .int .i64 off, .int .i64 n, .int .i64 mask, .slice none 0 0] 35) hT)
  have hq0 := keepA (.cells #[.int .i64 0, .int .i64 0, .slice none 0 0] 32) (newA w (.cells #[.int .i64 2, .int .i64 off, .int .i64 n, .int .i64 mask, .slice none 0 0] 35))
  have hq1 := newA (w.alloc (.cells #[.int .i64 2, .int .i64 off, .int .i64 n, .int .i64 mask, .slice none 0 0] 35)) (.cells #[.int .i64 0, .int .i64 0, .slice none 0 0] 32)
  have hsz : (w.alloc (.cells #[.int .i64 2, .int .i64 off, .int .i64 n, .int .i64 mask, .slice none 0 0] 35)).heap.size = w.heap.size + 1 := by simp
  rw [hsz] at hq1
  unfold twC at HT2
  unfold opV at KD ⊢
  clear ht h hB he hb1 hb2 hT hsz hf0
  go_enter Tryz.func32, Tryz.ntmps32
  go_wp2_with fail
  refine wp_region_more_tail 5 (by kernel_rfl) (by kernel_rfl) (by kernel_rfl) ?_
  simp only [List.take_succ_cons, List.take_zero, List.drop_succ_cons, List.drop_zero]
  generalize (w.alloc (.cells #[.int .i64 2, .int .i64 off, .int .i64 n, .int .i64 mask, .slice none 0 0] 35)).alloc (.cells #[.int .i64 0, .int .i64 0, .slice none 0 0] 32) = w0 at HB2 HT2 hq0 hq1 ⊢
  have hn1 : w.heap.size < w0.heap.size := lt_of_obj hq0
  have hn2 : w.heap.size + 1 < w0.heap.size := lt_of_obj hq1
  have HNN := Lib.hid (And.intro hn1 hn2)
  have HNB : Hid (∀ x ∈ [b.HP, b.Mb, b.Cb, b.TU], x ≠ w.heap.size + 1) := Lib.hid (fun x hx => by have := HBLK.out x hx; omega)
  have hlt2 := lt_of_obj HT2
  obtain ⟨g0, hg0⟩ : ∃ g0, w.heap.size = g0 := ⟨_, rfl⟩
  have HG0 := Lib.hid hg0
  rw [hg0] at hn1 hn2 hq0 hq1 hlt HNB HNN ⊢
  clear hg0
  repeat (go_big_quiet_step ((fail)))
  refine wpQuiet_nil ?_
  intro _ hw'
  obtain ⟨x, hw''⟩ := hw'
  subst hw''
  have KD2 := Lib.hid (KD.out _ (HB2.out.trans ((more_below w0 x).mono HB2.out.size)))
  have HB3 := Lib.hid (HB2.out.trans ((more_below w0 x).mono HB2.out.size))
  have HQ1 := Lib.hid (keep (more_below w0 x) hq1)
  have HSZ3 := Lib.hid (Nat.lt_of_lt_of_le hn2 (more_below w0 x).size)
  clear KD hq0 hq1 HT2 hn1 hn2 hlt2 HB2 hlt
  change wpList _ _ _ _ _ (more w0 x)
  generalize more w0 x = w3 at KD2 HB3 HQ1 HSZ3 ⊢
  go_wp2_with fail
  refine KD2.out.mono ?_
  rintro _ w4 ⟨rfl, hg⟩
  have HGO := Lib.hid hg
  obtain ⟨m4, h41, h42, h43⟩ := hg
  have hq4 := h43.keep HQ1.out (by have := HNB.out; intro hx; exact this (g0 + 1) (by simp at hx ⊢; omega) rfl)
  have hql := lt_of_obj hq4
  clear h41 h42 h43 KD2
  unfold ansV
  go_wp2_with fail
  have k5 : Kept [g0 + 1] w4 (((w4.setCell ⟨g0 + 1, 0, none⟩ (.int .i64 2)).setCell ⟨g0 + 1, 1, none⟩ (.int .i64 0)).setCell ⟨g0 + 1, 2, none⟩ (.slice none 0 0)) :=
    (((Kept.refl [g0 + 1] w4).setCell (p := ⟨g0 + 1, 0, none⟩) _ (Or.inl (by simp))).setCell (p := ⟨g0 + 1, 1, none⟩) _ (Or.inl (by simp))).setCell (p := ⟨g0 + 1, 2, none⟩) _ (Or.inl (by simp))
  exact ⟨rfl, _, res32 _ (g0 + 1) (.int .i64 2) (.int .i64 0) (.slice none 0 0) _ rfl (by simp [obj_setCell_eq, hq4, setAt]), rfl, (HGO.out.after HB3.out).door (g := g0 + 1) (by have := HG0.out; omega) (HNB.out _ (by simp)) (HNB.out _ (by simp)) k5⟩
end
end Go.Proofs.YtphmfaddgpjndaaGreat

/- tower.Do round whatever does tells; a cut; a start. (Printed by wip/d/genZX.py.) -/
namespace Go.Proofs.YtphmfaddgpjndaaGreat
open Go.ChangeShapes Go.WideShapes Go.RowKit Go.Maps

section
variable {w : World} {p : Pl} {m : MS}
set_option maxRecDepth 100000 in
set_option maxHeartbeats 3200000 in
theorem tdo_of {TW Mb Cb : Nat} {hv d : Value} {cost kind off n mask : Int} {k : Nat} {L : List Nat} {R : World → Int → Int → Value → World → Prop} (ht : TwAt w TW p Mb hv cost) (hm : MemAt w Mb Cb m) (hne : TW ≠ Mb ∧ TW ≠ Cb) (hL : ∀ x ∈ L, x < w.heap.size) (hd : ∃ ao cap, d = .slice ao k cap)
    (K : ∀ w1, Below w.heap.size w w1 → Calls Tryz.prog 32 #[.pointer (some ⟨TW, 0, none⟩), opV kind off n mask d] w1 fun e w2 => ∃ (err o : Int) (ao : Option Addr) (len cap : Nat) (m' : MS) (hv' : Value), e = .returned (ansV err o (.slice ao len cap)) ∧ MemAt w2 Mb Cb m' ∧ TwAt w2 TW p Mb hv' cost ∧ Kept L w1 w2 ∧ R w1 err o (.slice ao len cap) w2) :
    Calls Tryz.prog 9 #[.pointer (some ⟨TW, 0, none⟩), opV kind off n mask d] w fun e w' => ∃ (err o : Int) (v : Value) (m' : MS) (hv' : Value) (cost' : Int) (w1 w2 : World) (g : Nat), e = .returned (ansV err o v) ∧ Below w.heap.size w w1 ∧ R w1 err o v w2 ∧ Kept [TW, g] w2 w' ∧ w.heap.size ≤ g ∧ g < w1.heap.size ∧
      TwAt w' TW p Mb hv' cost' ∧ MemAt w' Mb Cb m' ∧ Kept L w1 w2 ∧ MemAt w2 Mb Cb m' ∧ TwAt w2 TW p Mb hv' cost := by
  have hT : obj w TW = some (.cells (twC p Mb hv cost) 69 (0, 0)) := ht
  obtain ⟨aod, capd, rfl⟩ := hd
  generalize hdd : Value.slice aod k capd = d at K ⊢
  have hlt := lt_of_obj hT
  have HLT := Lib.hid hlt
  have hb1 : Below w.heap.size w (w.alloc (.cells #[.int .i64 kind, .int .i64 off, .int .i64 n, .int .i64 mask, d] 35)) := (Below.refl _ _).alloc (Nat.le_refl _) _
  have hb2 := hb1.alloc hb1.size (.cells #[.int .i64 0, .int .i64 0, .slice none 0 0] 32)
  have HB2 := Lib.hid hb2
  have HBLK := Lib.hid hL
  have HMC := Lib.hid (And.intro hm.hM.lt hm.hL.lt)
  have HNE := Lib.hid hne
  have KD := K _ hb2
  have HT := Lib.hid hT
  have hT2 := keep hb2 hT
  have hq0 := keepA (.cells #[.int .i64 0, .int .i64 0, .slice none 0 0] 32) (newA w (.cells #[.int .i64 kind, .int .i64 off, .int .i64 n, .int .i64 mask, d] 35))
  have hq1 := newA (w.alloc (.cells #[.int .i64 kind, .int .i64 off, .int .i64 n, .int .i64 mask, d] 35)) (.cells #[.int .i64 0, .int .i64 0, .slice none 0 0] 32)
  have hsz : (w.alloc (.cells #[.int .i64 kind, .int .i64 off, .int .i64 n, .int .i64 mask, d] 35)).heap.size = w.heap.size + 1 := by simp
  have KW := Lib.hid (writes_any (hm.below hb2))
  rw [hsz] at hq1
  unfold twC at hT2
  unfold opV at KD ⊢
  have KD := Lib.hid KD
  clear ht hm hL K hb1 hb2 hT hsz hne
  go_enter Tryz.func9, Tryz.ntmps9
  subst hdd
  go_wp2_with fail
  have HNB : Hid (∀ x ∈ L, x ≠ w.heap.size + 1) := Lib.hid (fun x hx => by have := HBLK.out x hx; omega)
  generalize (w.alloc (.cells #[.int .i64 kind, .int .i64 off, .int .i64 n, .int .i64 mask, .slice aod k capd] 35)).alloc (.cells #[.int .i64 0, .int .i64 0, .slice none 0 0] 32) = w0 at HB2 hT2 hq0 hq1 KD KW ⊢
  have hn1 : w.heap.size < w0.heap.size := lt_of_obj hq0
  have hn2 : w.heap.size + 1 < w0.heap.size := lt_of_obj hq1
  have HNN := Lib.hid (And.intro hn1 hn2)
  obtain ⟨g0, hg0⟩ : ∃ g0, w.heap.size = g0 := ⟨_, rfl⟩
  have HG0 := Lib.hid hg0
  rw [hg0] at hn1 hn2 hq0 hq1 HNB HNN ⊢
  have hlt2 := lt_of_obj hT2
  have HQ1 := Lib.hid hq1
  clear hg0 hlt
  refine KW.out.mono ?_
  rintro _ _ ⟨rfl, rfl⟩
  go_wp2_with fail
  refine KD.out.mono ?_
  rintro _ w4 ⟨err, o, aov, n, capv, m', hv', rfl, hm4, hT4, hgk, hR⟩
  have hT4 : obj w4 TW = some (.cells (twC p Mb hv' cost) 69 (0, 0)) := hT4
  have hq4 := hgk.keep hq1 (fun hx => HNB.out _ hx rfl)
  have HT4 := Lib.hid hT4
  have HM4 := Lib.hid hm4
  have HR := Lib.hid hR
  have HK4 := Lib.hid hgk
  have hS4 := hgk.size
  have hql := lt_of_obj hq4
  have htl := lt_of_obj hT4
  have HTL := Lib.hid htl
  have HSZ04 := Lib.hid hS4
  have hne1 : TW ≠ g0 + 1 := by have := HLT.out; have := HG0.out; omega
  clear KD hgk hT2 hlt2 hq0 hq1 KW hR hm4
  unfold twC at hT4
  unfold ansV
  go_wp2_with fail
  have KW5 := Lib.hid (writes_any (HM4.out.alloc (.cells #[.int .i64 err, .int .i64 o, .slice aov n capv] 32)))
  have hT5 := keepA (.cells #[.int .i64 err, .int .i64 o, .slice aov n capv] 32) hT4
  have hq5 := keepA (.cells #[.int .i64 err, .int .i64 o, .slice aov n capv] 32) hq4
  have hr5 := newA w4 (.cells #[.int .i64 err, .int .i64 o, .slice aov n capv] 32)
  have HB45 := Lib.hid ((Below.refl w4.heap.size w4).alloc (Nat.le_refl _) (.cells #[.int .i64 err, .int .i64 o, .slice aov n capv] 32))
  generalize w4.alloc (.cells #[.int .i64 err, .int .i64 o, .slice aov n capv] 32) = w5 at KW5 hT5 hq5 hr5 HB45 ⊢
  have htl5 := lt_of_obj hT5
  have hql5 := lt_of_obj hq5
  have hne2 : TW ≠ w4.heap.size := by omega
  have hne3 : g0 + 1 ≠ w4.heap.size := by omega
  generalize w4.heap.size = g4 at hr5 hne2 hne3 ⊢
  have hrl5 := lt_of_obj hr5
  have hne2' := hne2.symm
  have hne1' := hne1.symm
  have hne3' := hne3.symm
  have HNE1 := Lib.hid hne1
  clear hT4 hq4 hql htl
  refine KW5.out.mono ?_
  rintro _ _ ⟨rfl, rfl⟩
  go_wp2_with fail
  generalize wrap64 (m'.writes - m.writes) = cost'
  have k6 : Kept [TW, g0 + 1] w5 ((((w5.setCell ⟨TW, 6, none⟩ (.int .i64 cost')).setCell ⟨g0 + 1, 0, none⟩ (.int .i64 err)).setCell ⟨g0 + 1, 1, none⟩ (.int .i64 o)).setCell ⟨g0 + 1, 2, none⟩ (.slice aov n capv)) :=
    ((((Kept.refl [TW, g0 + 1] w5).setCell (p := ⟨TW, 6, none⟩) _ (Or.inl (by simp))).setCell (p := ⟨g0 + 1, 0, none⟩) _ (Or.inl (by simp))).setCell (p := ⟨g0 + 1, 1, none⟩) _ (Or.inl (by simp))).setCell (p := ⟨g0 + 1, 2, none⟩) _ (Or.inl (by simp))
  have htt : TwAt ((((w5.setCell ⟨TW, 6, none⟩ (.int .i64 cost')).setCell ⟨g0 + 1, 0, none⟩ (.int .i64 err)).setCell ⟨g0 + 1, 1, none⟩ (.int .i64 o)).setCell ⟨g0 + 1, 2, none⟩ (.slice aov n capv)) TW p Mb hv' cost' := by
    unfold TwAt
    rw [obj_setCell_ne _ _ _ TW hne1, obj_setCell_ne _ _ _ TW hne1, obj_setCell_ne _ _ _ TW hne1, obj_setCell_eq, hT5]
    rfl
  have k46 := (Kept.of_below (L := [TW, g0 + 1]) HB45.out).trans k6
  have hm6 := HM4.out.kept k46 (by have := HNE.out; have := HMC.out; have := HG0.out; simp; omega) (by have := HNE.out; have := HMC.out; have := HG0.out; simp; omega)
  exact ⟨rfl, _, res9 _ (g0 + 1) (.int .i64 err) (.int .i64 o) (.slice aov n capv) _ rfl (by simp [obj_setCell_eq, obj_setCell_ne, hne1', hq5, setAt]), err, o, _, m', hv', cost', _, w4, g0 + 1, rfl, HB2.out, HR.out, k46, by have := HG0.out; omega, HNN.out.2, htt, hm6, HK4.out, HM4.out, HT4.out⟩
end
end Go.Proofs.YtphmfaddgpjndaaGreat

/- tower.Do: a cut, a start, a free at a cut. -/
namespace Go.Proofs.YtphmfaddgpjndaaGreat
open Go.ChangeShapes Go.WideShapes Go.RowKit Go.Maps

section
variable {w : World} {p : Pl} {m : MS} {TW Mb Cb : Nat} {hv : Value} {cost : Int}
/-- the power is to go at the next write -/
def MS.cutting (m : MS) : MS := { m with cut := 0, mask := 0 }
/-- the power comes -/
def MS.started (m : MS) : MS := { m with cut := -1, down := false }
set_option maxRecDepth 100000 in
set_option maxHeartbeats 3200000 in
theorem does_cut (ht : TwAt w TW p Mb hv cost) (hm : MemAt w Mb Cb m) (hne : TW ≠ Mb) (off : Int) :
    Calls Tryz.prog 32 #[.pointer (some ⟨TW, 0, none⟩), opV 7 off 0 0 (.slice none 0 0)] w fun e w' => e = .returned (ansV 0 0 (.slice none 0 0)) ∧ MemAt w' Mb Cb m.cutting ∧ TwAt w' TW p Mb hv cost ∧ Kept [Mb] w w' := by
  have hT : obj w TW = some (.cells (twC p Mb hv cost) 69 (0, 0)) := ht
  have hlt := lt_of_obj hT
  have hb1 : Below w.heap.size w (w.alloc (.cells #[.int .i64 7, .int .i64 off, .int .i64 0, .int .i64 0, .slice none 0 0] 35)) := (Below.refl _ _).alloc (Nat.le_refl _) _
  have hb2 := hb1.alloc hb1.size (.cells #[.int .i64 0, .int .i64 0, .slice none 0 0] 32)
  have HB2 := Lib.hid hb2
  have HMB := Lib.hid (And.intro hm.hM.lt hm.hL.lt)
  have KD := Lib.hid (fun w' (hb : Below w.heap.size w w') => cut_in (hm.below hb) 0)
  have HT := Lib.hid hT
  have HT2 := keep hb2 hT
  have hq0 := keepA (.cells #[.int .i64 0, .int .i64 0, .slice none 0 0] 32) (newA w (.cells #[.int .i64 7, .int .i64 off, .int .i64 0, .int .i64 0, .slice none 0 0] 35))
  have hq1 := newA (w.alloc (.cells #[.int .i64 7, .int .i64 off, .int .i64 0, .int .i64 0, .slice none 0 0] 35)) (.cells #[.int .i64 0, .int .i64 0, .slice none 0 0] 32)
  have hsz : (w.alloc (.cells #[.int .i64 7, .int .i64 off, .int .i64 0, .int .i64 0, .slice none 0 0] 35)).heap.size = w.heap.size + 1 := by simp
  rw [hsz] at hq1
  unfold twC at HT2
  unfold opV
  have HNE := Lib.hid hne
  clear ht hm hb1 hb2 hT hsz hne
  go_enter Tryz.func32, Tryz.ntmps32
  go_wp2_with fail
  refine wp_region_more_tail 8 (by kernel_rfl) (by kernel_rfl) (by kernel_rfl) ?_
  simp only [List.take_succ_cons, List.take_zero, List.drop_succ_cons, List.drop_zero]
  generalize (w.alloc (.cells #[.int .i64 7, .int .i64 off, .int .i64 0, .int .i64 0, .slice none 0 0] 35)).alloc (.cells #[.int .i64 0, .int .i64 0, .slice none 0 0] 32) = w0 at HB2 HT2 hq0 hq1 ⊢
  have hn1 : w.heap.size < w0.heap.size := lt_of_obj hq0
  have hn2 : w.heap.size + 1 < w0.heap.size := lt_of_obj hq1
  have hlt2 := lt_of_obj HT2
  obtain ⟨g0, hg0⟩ : ∃ g0, w.heap.size = g0 := ⟨_, rfl⟩
  have HG0 := Lib.hid hg0
  rw [hg0] at hn1 hn2 hq0 hq1 hlt HMB ⊢
  have HLT := Lib.hid hlt
  clear hg0
  repeat (go_big_quiet_step ((fail)))
  refine wpQuiet_nil ?_
  intro _ hw'
  obtain ⟨x, hw''⟩ := hw'
  subst hw''
  have KD2 := Lib.hid (KD.out _ (HB2.out.trans ((more_below w0 x).mono HB2.out.size)))
  have HB3 := Lib.hid (HB2.out.trans ((more_below w0 x).mono HB2.out.size))
  have HQ1 := Lib.hid (keep (more_below w0 x) hq1)
  clear KD hq0 hq1 HT2 hn1 hn2 hlt2 HB2 hlt
  change wpList _ _ _ _ _ (more w0 x)
  generalize more w0 x = w3 at KD2 HB3 HQ1 ⊢
  go_wp2_with fail
  refine KD2.out.mono ?_
  rintro _ w4 ⟨rfl, hm4, hk4⟩
  have hq4 := hk4.keep HQ1.out (by have := HMB.out; simp; omega)
  have hql := lt_of_obj hq4
  have HM4 := Lib.hid hm4
  have HK4 := Lib.hid hk4
  clear hm4 hk4 KD2
  go_wp2_with fail
  have k5 : Kept [g0 + 1] w4 (((w4.setCell ⟨g0 + 1, 0, none⟩ (.int .i64 0)).setCell ⟨g0 + 1, 1, none⟩ (.int .i64 0)).setCell ⟨g0 + 1, 2, none⟩ (.slice none 0 0)) :=
    (((Kept.refl [g0 + 1] w4).setCell (p := ⟨g0 + 1, 0, none⟩) _ (Or.inl (by simp))).setCell (p := ⟨g0 + 1, 1, none⟩) _ (Or.inl (by simp))).setCell (p := ⟨g0 + 1, 2, none⟩) _ (Or.inl (by simp))
  have hmb := HMB.out
  have hg := HG0.out
  have hl := HLT.out
  refine ⟨rfl, _, res32 _ (g0 + 1) (.int .i64 0) (.int .i64 0) (.slice none 0 0) _ rfl (by simp [obj_setCell_eq, hq4, setAt]), rfl, HM4.out.kept k5 (by simp; omega) (by simp; omega), k5.keep (HK4.out.keep (keep HB3.out HT.out) (by simp; exact HNE.out)) (by simp; omega), ?_⟩
  exact ((Kept.of_below HB3.out).next HK4.out (fun x hx => Or.inl hx)).next k5 (fun x hx => Or.inr (by simp at hx; omega))
set_option maxRecDepth 100000 in
set_option maxHeartbeats 3200000 in
theorem does_start {B : Bs} {X Y : Nat} (ht : TwAt w TW p Mb hv cost) (hm : MemAt w Mb Cb m) (hne : TW ≠ Mb ∧ TW ≠ Cb) (hc : CanOpen m.started p B X Y) (off n mask : Int) {k : Nat} {ao : Option Addr} {cap : Nat} :
    Calls Tryz.prog 32 #[.pointer (some ⟨TW, 0, none⟩), opV 8 off n mask (.slice ao k cap)] w fun e w' => ∃ b : HB, e = .returned (ansV 0 0 (.slice none 0 0)) ∧ b.Mb = Mb ∧ b.Cb = Cb ∧ HeapIn w' b p 0 m.started (fun j => m.reg (19 + j)) (fun j => m.reg (19 + j)) X Y ∧
      TwAt w' TW p Mb (.pointer (some ⟨b.HP, 0, none⟩)) cost ∧ TW ∉ b.list ∧ (∀ x ∈ [b.HP, b.TU, b.LN, b.LG, b.C, b.g1, b.g2], w.heap.size + 1 < x) ∧ Kept [TW, Mb] w w' := by
  have hT : obj w TW = some (.cells (twC p Mb hv cost) 69 (0, 0)) := ht
  have hlt := lt_of_obj hT
  have hb1 : Below w.heap.size w (w.alloc (.cells #[.int .i64 8, .int .i64 off, .int .i64 n, .int .i64 mask, .slice ao k cap] 35)) := (Below.refl _ _).alloc (Nat.le_refl _) _
  have hb2 := hb1.alloc hb1.size (.cells #[.int .i64 0, .int .i64 0, .slice none 0 0] 32)
  have HB2 := Lib.hid hb2
  have HMB := Lib.hid (And.intro hm.hM.lt hm.hL.lt)
  have KD := Lib.hid (power_in (hm.below hb2))
  have HT := Lib.hid (keep hb2 hT)
  have HT2 := keep hb2 hT
  have hq0 := keepA (.cells #[.int .i64 0, .int .i64 0, .slice none 0 0] 32) (newA w (.cells #[.int .i64 8, .int .i64 off, .int .i64 n, .int .i64 mask, .slice ao k cap] 35))
  have hq1 := newA (w.alloc (.cells #[.int .i64 8, .int .i64 off, .int .i64 n, .int .i64 mask, .slice ao k cap] 35)) (.cells #[.int .i64 0, .int .i64 0, .slice none 0 0] 32)
  have hsz : (w.alloc (.cells #[.int .i64 8, .int .i64 off, .int .i64 n, .int .i64 mask, .slice ao k cap] 35)).heap.size = w.heap.size + 1 := by simp
  rw [hsz] at hq1
  unfold twC at HT2
  unfold opV
  have HNE := Lib.hid hne
  have HC := Lib.hid hc
  clear ht hm hb1 hb2 hT hsz hne hc
  go_enter Tryz.func32, Tryz.ntmps32
  go_wp2_with fail
  generalize (w.alloc (.cells #[.int .i64 8, .int .i64 off, .int .i64 n, .int .i64 mask, .slice ao k cap] 35)).alloc (.cells #[.int .i64 0, .int .i64 0, .slice none 0 0] 32) = w0 at HB2 HT2 HT KD hq0 hq1 ⊢
  have HQ1 := Lib.hid hq1
  have HSZ0 := Lib.hid (lt_of_obj hq1)
  obtain ⟨g0, hg0⟩ : ∃ g0, w.heap.size = g0 := ⟨_, rfl⟩
  have HG0 := Lib.hid hg0
  rw [hg0] at hq0 hq1 HQ1 HSZ0 hlt HMB ⊢
  have HLT := Lib.hid hlt
  clear hg0 hq0 hq1 hlt HT2
  refine KD.out.mono ?_
  rintro _ w4 ⟨rfl, hm4, hk4⟩
  have ht4 := hk4.keep HT.out (by simp; exact HNE.out.1)
  have HQ4 := Lib.hid (hk4.keep HQ1.out (by have := HMB.out; simp; omega))
  have HS4 := Lib.hid hk4.size
  have KO := Lib.hid (topen_any (TW := TW) (hv := hv) (cost := cost) ht4 hm4 HC.out HNE.out)
  have HK4 := Lib.hid hk4
  clear hm4 hk4 KD ht4
  go_wp2_with fail
  refine KO.out.mono ?_
  rintro _ w5 ⟨b, rfl, h1, h2, hh, ht5, hn, hfr, hk5⟩
  have hq5 := hk5.keep HQ4.out (by have := HLT.out; simp; omega)
  have hql := lt_of_obj hq5
  have HRES := Lib.hid (And.intro h1 (And.intro h2 (And.intro hh (And.intro ht5 (And.intro hn hfr)))))
  have HK5 := Lib.hid hk5
  clear h1 h2 hh ht5 hn hfr hk5 KO
  go_wp2_with fail
  have k6 : Kept [g0 + 1] w5 (((w5.setCell ⟨g0 + 1, 0, none⟩ (.int .i64 0)).setCell ⟨g0 + 1, 1, none⟩ (.int .i64 0)).setCell ⟨g0 + 1, 2, none⟩ (.slice none 0 0)) :=
    (((Kept.refl [g0 + 1] w5).setCell (p := ⟨g0 + 1, 0, none⟩) _ (Or.inl (by simp))).setCell (p := ⟨g0 + 1, 1, none⟩) _ (Or.inl (by simp))).setCell (p := ⟨g0 + 1, 2, none⟩) _ (Or.inl (by simp))
  have hmb := HMB.out
  have hg := HG0.out
  have hl := HLT.out
  have hs0 := HSZ0.out
  have hs4 := HS4.out
  have hfr := HRES.out.2.2.2.2.2
  have hb1 := HRES.out.1
  have hb2 := HRES.out.2.1
  have hfr2 : ∀ x ∈ [b.HP, b.TU, b.LN, b.LG, b.C, b.g1, b.g2], g0 + 1 < x := fun x hx => by have := hfr x hx; omega
  have hne1 : ∀ x ∈ [b.HP, b.Mb, b.Cb, b.TU, b.LN, b.LG, b.C, b.g1, b.g2], x ∉ [g0 + 1] := by
    intro x hx
    simp at hx hfr2 ⊢
    rw [hb1, hb2] at hx
    omega
  refine ⟨rfl, _, res32 _ (g0 + 1) (.int .i64 0) (.int .i64 0) (.slice none 0 0) _ rfl (by simp [obj_setCell_eq, hq5, setAt]), b, rfl, hb1, hb2, HRES.out.2.2.1.kept k6 hne1, k6.keep HRES.out.2.2.2.1 (by simp; omega), HRES.out.2.2.2.2.1, fun x hx => by have := hfr2 x hx; omega, ?_⟩
  exact (((Kept.of_below HB2.out).next HK4.out (fun x hx => Or.inl (by simp at hx ⊢; omega))).next HK5.out (fun x hx => Or.inl (by simp at hx ⊢; omega))).next k6 (fun x hx => Or.inr (by simp at hx; omega))
end
end Go.Proofs.YtphmfaddgpjndaaGreat

/- tower.Do: a cut, a free at a cut, a start, as one sees them from the laws. -/
namespace Go.Proofs.YtphmfaddgpjndaaGreat
open Go.ChangeShapes Go.WideShapes Go.RowKit Go.Maps

section
variable {w : World} {p : Pl} {TW : Nat} {b : HB} {now : Nat → Int} {B : Bs} {W : Nat → Int} {r : Int} {X Y : Nat}
/-- a tower whose power goes at the next write -/
def TwC (w : World) (TW : Nat) (b : HB) (p : Pl) (B : Bs) (W : Nat → Int) (r : Int) (X Y : Nat) : Prop :=
  ∃ puts m cost, TwAt w TW p b.Mb (.pointer (some ⟨b.HP, 0, none⟩)) cost ∧ HeapC w b p puts m (fun _ => 0) (fun _ => 0) ∧ TW ∉ b.list ∧ W = hW m p.L ∧ r = m.reg 2 ∧ St (p.L * 8) B W r ∧ (∀ j, j < p.pages → 0 ≤ m.reg (19 + j) ∧ m.reg (19 + j) ≤ X) ∧ X ≤ 1000000000000 ∧ m.writes ≤ Y
/-- a tower that can be started -/
def TwD (w : World) (TW Mb Cb : Nat) (p : Pl) (B : Bs) (W : Nat → Int) (r : Int) (X Y : Nat) (kept : Nat → Int) : Prop :=
  ∃ m hv cost, TwAt w TW p Mb hv cost ∧ MemAt w Mb Cb m ∧ (TW ≠ Mb ∧ TW ≠ Cb) ∧ CanOpen m.started p B X Y ∧ W = hW m.started p.L ∧ r = m.reg 2 ∧ St (p.L * 8) B W r ∧ (∀ j, j < p.pages → m.reg (19 + j) = kept j)
theorem Tw.mono (h : Tw w TW b p now B W r X Y) {X' Y' : Nat} (hX : X ≤ X') (hY : Y ≤ Y') : Tw w TW b p now B W r X' Y' := by
  obtain ⟨a1, a2, a3, a4, h1, h2, h3⟩ := h
  exact ⟨a1, a2, a3, a4, h1, h2.mono hX hY, h3⟩
theorem Tw.st (h : Tw w TW b p now B W r X Y) : St (p.L * 8) B W r := by
  obtain ⟨_, _, _, _, _, _, _, _, _, h⟩ := h; exact h
theorem Tw.hp (h : Tw w TW b p now B W r X Y) : p.Ok := by
  obtain ⟨_, _, _, _, _, h, _⟩ := h; exact h.hp
theorem Tw.kept (h : Tw w TW b p now B W r X Y) {L : List Nat} {w' : World} (k : Kept L w w') (hL : ∀ x ∈ TW :: b.list, x ∉ L) : Tw w' TW b p now B W r X Y := by
  obtain ⟨a1, a2, a3, a4, h1, h2, h3⟩ := h
  exact ⟨a1, a2, a3, a4, k.keep h1 (hL _ (by simp)), h2.kept k (fun x hx => hL x (by simp; exact Or.inr hx)), h3⟩
theorem Tw.below (h : Tw w TW b p now B W r X Y) {w' : World} (k : Below w.heap.size w w') : Tw w' TW b p now B W r X Y := h.kept (below_kept k) (by simp)
theorem Tw.lts (h : Tw w TW b p now B W r X Y) : ∀ x ∈ TW :: b.list, x < w.heap.size := by
  obtain ⟨a1, a2, a3, a4, h1, h2, h3⟩ := h
  intro x hx
  rcases List.mem_cons.1 hx with rfl | hx
  · exact lt_of_obj h1
  · exact h2.lts x hx
/-- it can be started again at once -/
theorem Tw.can (h : Tw w TW b p now B W r X Y) (hX : X ≤ 1000000000000) : ∃ kept, TwD w TW b.Mb b.Cb p B W r X Y kept ∧ ∀ j, j < p.pages → kept j ≤ now j ∧ now j - kept j < p.B := by
  obtain ⟨puts, m, kept, cost, h1, h2, h3, rfl, rfl, h6⟩ := h
  have e : m.started = m := by
    unfold MS.started
    have hc := h2.cut
    have hd := h2.gd.up
    cases m
    simp only at hc hd
    subst hc hd
    rfl
  have hn : TW ≠ b.Mb ∧ TW ≠ b.Cb := ⟨fun e => h3 (by unfold HB.list; simp [e]), fun e => h3 (by unfold HB.list; simp [e])⟩
  refine ⟨kept, ⟨m, _, cost, h1, h2.hG.hT.hM, hn, ?_, by rw [e], rfl, h6, h2.regs⟩, fun j hj => ⟨(h2.nn j hj).2.1, h2.lg j hj⟩⟩
  rw [e]
  exact ⟨h2.hp, h2.gd, h2.cut, h2.r1, h6.hB, h6.he, h6.hr, fun j hj => by rw [h2.regs j hj]; have := h2.nn j hj; omega, hX, h2.wr⟩
theorem tw_same {Mb : Nat} {hv hv' : Value} {cost : Int} (h : TwAt w TW p Mb hv cost) (h' : TwAt w TW p Mb hv' cost) : hv = hv' := by
  unfold TwAt at h h'
  rw [h] at h'
  unfold twC at h'
  simpa using h'
set_option maxHeartbeats 800000 in
theorem tdo_start {Mb Cb : Nat} {kept : Nat → Int} (h : TwD w TW Mb Cb p B W r X Y kept) (off n mask : Int) {k : Nat} {ao : Option Addr} {cap : Nat} :
    Calls Tryz.prog 9 #[.pointer (some ⟨TW, 0, none⟩), opV 8 off n mask (.slice ao k cap)] w fun e w' => ∃ (b : HB) (now : Nat → Int), e = .returned (ansV 0 0 (.slice none 0 0)) ∧ b.Mb = Mb ∧ b.Cb = Cb ∧ Tw w' TW b p now B W r X Y ∧
      (∀ j, j < p.pages → now j = kept j) ∧ (∀ x ∈ [b.HP, b.TU, b.LN, b.LG, b.C, b.g1, b.g2], w.heap.size ≤ x) ∧ Kept [TW, Mb] w w' := by
  obtain ⟨m, hv, cost, h1, h2, h3, h4, rfl, rfl, h7, h8⟩ := h
  have hTl : TW < w.heap.size := lt_of_obj h1
  refine (tdo_of (L := [TW, Mb]) (R := fun w1 err o v w2 => err = 0 ∧ o = 0 ∧ v = .slice none 0 0 ∧ ∃ b : HB, b.Mb = Mb ∧ b.Cb = Cb ∧ HeapIn w2 b p 0 m.started (fun j => m.reg (19 + j)) (fun j => m.reg (19 + j)) X Y ∧ TwAt w2 TW p Mb (.pointer (some ⟨b.HP, 0, none⟩)) cost ∧ TW ∉ b.list ∧ (∀ x ∈ [b.HP, b.TU, b.LN, b.LG, b.C, b.g1, b.g2], w1.heap.size ≤ x)) h1 h2 h3 (by intro x hx; have := h2.hM.lt; simp at hx; omega) ⟨ao, cap, rfl⟩ ?_).mono ?_
  · intro w1 hb
    refine (does_start (keep hb h1) (h2.below hb) h3 h4 off n mask).mono ?_
    rintro e w2 ⟨b, rfl, g1, g2, g3, g4, g5, g6, g7⟩
    exact ⟨0, 0, none, 0, 0, m.started, _, rfl, by rw [← g1, ← g2]; exact g3.hG.hT.hM, g4, g7, rfl, rfl, rfl, b, g1, g2, g3, g4, g5, fun x hx => by have := g6 x hx; omega⟩
  · rintro e w' ⟨err, o, v, m', hv', cost', w1, w2, g, rfl, hb, ⟨rfl, rfl, rfl, b, g1, g2, g3, g4, g5, g6⟩, hk, hg, hg1, ht, hm, hk12, hm2, ht2⟩
    have hbl : ∀ x ∈ [b.HP, b.Mb, b.Cb, b.TU, b.LN, b.LG, b.C, b.g1, b.g2], x ∉ [TW, g] := by
      intro x hx
      have hx2 : x ≠ TW := fun e => g5 (by unfold HB.list; rw [← e]; exact hx)
      have := h2.hM.lt
      have := h2.hL.lt
      simp at hx g6 ⊢
      rw [g1, g2] at hx
      omega
    have hb2 := hb.size
    have e1 : hv' = .pointer (some ⟨b.HP, 0, none⟩) := tw_same ht2 g4
    subst e1
    exact ⟨b, _, rfl, g1, g2, ⟨0, m.started, _, cost', by rw [g1]; exact ht, g3.kept hk hbl, g5, rfl, rfl, h7⟩, h8, fun x hx => by have := g6 x hx; omega, ((Kept.of_below hb).next hk12 (fun x hx => Or.inl hx)).next hk (fun x hx => by simp at hx; rcases hx with rfl | rfl; exact Or.inl (by simp); exact Or.inr hg)⟩
set_option maxHeartbeats 800000 in
theorem tdo_cut (h : Tw w TW b p now B W r X Y) (hX : X ≤ 1000000000000) (hY : Y + 1 ≤ 1000000000000) (off : Int) :
    Calls Tryz.prog 9 #[.pointer (some ⟨TW, 0, none⟩), opV 7 off 0 0 (.slice none 0 0)] w fun e w' => e = .returned (ansV 0 0 (.slice none 0 0)) ∧ TwC w' TW b p B W r X Y ∧ Kept [TW, b.Mb] w w' := by
  obtain ⟨puts, m, kept, cost, h1, h2, h3, rfl, rfl, h6⟩ := h
  have hTl : TW < w.heap.size := lt_of_obj h1
  have hn : TW ≠ b.Mb ∧ TW ≠ b.Cb := ⟨fun e => h3 (by unfold HB.list; simp [e]), fun e => h3 (by unfold HB.list; simp [e])⟩
  have hm := h2.hG.hT.hM
  have hml := hm.hM.lt
  have hap := h2.ap
  have hne := h2.hG.ne
  have hne2 := h2.hG.hT.ne
  refine (tdo_of (L := [b.Mb]) (R := fun w1 err o v w2 => err = 0 ∧ o = 0 ∧ v = .slice none 0 0 ∧ MemAt w2 b.Mb b.Cb m.cutting ∧ TwAt w2 TW p b.Mb (.pointer (some ⟨b.HP, 0, none⟩)) cost) h1 hm hn (by intro x hx; simp at hx; omega) ⟨none, 0, rfl⟩ ?_).mono ?_
  · intro w1 hb
    refine (does_cut (keep hb h1) (hm.below hb) hn.1 off).mono ?_
    rintro e w2 ⟨rfl, g1, g2, g3⟩
    exact ⟨0, 0, none, 0, 0, m.cutting, _, rfl, g1, g2, g3, rfl, rfl, rfl, g1, g2⟩
  · rintro e w' ⟨err, o, v, m', hv', cost', w1, w2, g, rfl, hb, ⟨rfl, rfl, rfl, g1, g2⟩, hk, hg, hg1, ht, hm', hk12, hm2, ht2⟩
    obtain rfl := tw_same ht2 g2
    have hlts := h2.lts
    have hk02 : Kept [b.Mb] w w2 := (Kept.of_below hb).next hk12 (fun x hx => Or.inl hx)
    have hk0 : Kept [TW, b.Mb] w w' := (hk02.mono (by intro x hx; simp at hx ⊢; exact Or.inr hx)).next hk (fun x hx => by simp at hx; rcases hx with rfl | rfl; exact Or.inl (by simp); exact Or.inr hg)
    have hl1 : ∀ x ∈ [b.HP, b.TU, b.LN, b.LG, b.C, b.g1, b.g2], x ≠ TW := fun x hx e => h3 (by unfold HB.list; rw [← e]; simp at hx ⊢; omega)
    have hHP : b.HP ≠ b.Mb := fun e => hap b.HP (by simp) (by simp [e])
    have hMg : b.Mb ≠ g := by omega
    have hCg : b.Cb ≠ g := by have := hm.hL.lt; omega
    have hM2 := g1.kept hk (by simp; exact ⟨fun e => hn.1 e.symm, hMg⟩) (by simp; exact ⟨fun e => hn.2 e.symm, hCg⟩)
    have gd := h2.gd
    refine ⟨rfl, ⟨puts, m.cutting, cost', ht, ?_, h3, rfl, rfl, h6, fun j hj => ?_, hX, h2.wr⟩, hk0⟩
    · exact
        { hp := h2.hp
          hH := h2.hH.kept hk0 (by simp; exact ⟨hl1 _ (by simp), hHP⟩)
          hG := ⟨h2.hG.hG.kept hk0 (by simp; exact ⟨hl1 _ (by simp), hne.2.1⟩), ⟨hk0.keep h2.hG.hT.hT (by simp; exact ⟨hl1 _ (by simp), hne2.2.1⟩), h2.hG.hT.hL.kept hk0 (by simp; exact ⟨hl1 _ (by simp), hne2.2.2.2.1⟩), hM2, h2.hG.hT.per, h2.hG.hT.pu, hne2⟩, hne, h2.hG.n16⟩
          gd := ⟨gd.up, Int.le_refl _, gd.w0, gd.w1, gd.we, gd.r0, gd.r1, gd.fr, gd.hn, gd.n1, gd.sp⟩
          cut := rfl
          mask := rfl
          r1 := h2.r1
          ap := hap
          wr := by have := h2.wr; show m.writes + 1 ≤ _; omega }
    · have := h2.regs j hj
      have := h2.nn j hj
      show 0 ≤ m.reg (19 + j) ∧ m.reg (19 + j) ≤ X
      omega
theorem Cutted.can {m m' : MS} {n spares : Nat} (hg : Good m n spares) (hw : m.writes + 1 ≤ 1000000000000) (h : Cutted m m') : Good m'.started n spares := by
  refine ⟨rfl, (by decide : (-1 : Int) ≤ 0), ?_, ?_, h.we, ?_, ?_, ?_, h.n.trans hg.hn, hg.n1, hg.sp⟩
  · show 0 ≤ m'.writes; rw [h.wr]; have := hg.w0; omega
  · show m'.writes ≤ _; rw [h.wr]; exact hw
  · show 0 ≤ m'.reg 0; rw [h.reg]; exact hg.r0
  · show m'.reg 0 ≤ m'.writes; rw [h.reg, h.wr]; have := hg.r1; omega
  · intro i hi; show m'.reg (3 + i) = 0; rw [h.reg]; exact hg.fr i hi
theorem Cutted.words {m m' : MS} (h : Cutted m m') (L : Nat) : hW m'.started L = hW m L := by
  unfold hW MS.cont MS.mv
  show (fun t => wd (m'.line (slotN (16 + L) (m'.reg 0).toNat (16 + t / 8))) (t % 8)) = _
  rw [h.line, h.reg]
set_option maxHeartbeats 800000 in
theorem tdo_free_cut (h : TwC w TW b p B W r X Y) (off n mask : Int) {i0 : Nat} (hi0 : i0 < B.n) (hf0 : findP off (B.at i0, B.sz i0, B.us i0) = true) (hro0 : r ≠ off) :
    Calls Tryz.prog 9 #[.pointer (some ⟨TW, 0, none⟩), opV 2 off n mask (.slice none 0 0)] w fun e w' => e = .returned (ansV 2 0 (.slice none 0 0)) ∧ (∃ kept, TwD w' TW b.Mb b.Cb p B W r X (Y + 1) kept) ∧ Kept (TW :: b.list) w w' := by
  obtain ⟨puts, m, cost, h1, h2, h3, rfl, rfl, h6, h7, h8, h9⟩ := h
  have hn : TW ≠ b.Mb ∧ TW ≠ b.Cb := ⟨fun e => h3 (by unfold HB.list; simp [e]), fun e => h3 (by unfold HB.list; simp [e])⟩
  have hm := h2.hG.hT.hM
  have a1 := hm.hM.lt
  have a2 := hm.hL.lt
  have a3 := lt_of_obj h2.hG.hT.hT
  have a4 := lt_of_obj h2.hH
  have a5 := lt_of_obj h1
  have hl1 : TW ∉ [b.Mb, b.Cb, b.TU, b.HP] := fun hx => h3 (by unfold HB.list; simp at hx ⊢; omega)
  refine (tdo_of (L := [b.Mb, b.Cb, b.TU, b.HP]) (R := fun w1 err o v w2 => err = 2 ∧ o = 0 ∧ v = .slice none 0 0 ∧ ∃ m', MemAt w2 b.Mb b.Cb m' ∧ Cutted m m') h1 hm hn (by intro x hx; simp at hx; omega) ⟨none, 0, rfl⟩ ?_).mono ?_
  · intro w1 hb
    have hbs := hb.size
    refine (does_free_cut (keep hb h1) (h2.below hb) (by intro x hx; simp at hx; omega) h6.hB h6.he (h6.hr.wrap h6.hB) off n mask hi0 hf0 hro0).mono ?_
    rintro e w2 ⟨rfl, m', g1, g2, g3⟩
    exact ⟨2, 0, none, 0, 0, m', _, rfl, g1, g3.keep (keep hb h1) hl1, g3, rfl, rfl, rfl, m', g1, g2⟩
  · rintro e w' ⟨err, o, v, m', hv', cost', w1, w2, g, rfl, hb, ⟨rfl, rfl, rfl, m2, g1, g2⟩, hk, hg, hg1, ht, hm', hk12, hm2, ht2⟩
    have hM2 := g1.kept hk (by simp; exact ⟨fun e => hn.1 e.symm, by omega⟩) (by simp; exact ⟨fun e => hn.2 e.symm, by omega⟩)
    have hk0 : Kept (TW :: b.list) w w' := ((Kept.of_below hb).next hk12 (fun x hx => Or.inl (by unfold HB.list; simp at hx ⊢; omega))).next hk (fun x hx => by simp at hx; rcases hx with rfl | rfl; exact Or.inl (by simp); exact Or.inr hg)
    have hs := g2.words p.L
    have e2 : m2.reg 2 = m.reg 2 := by rw [g2.reg]
    refine ⟨rfl, ⟨fun j => m2.reg (19 + j), m2, hv', cost', ht, hM2, hn, ⟨h2.hp, g2.can h2.gd h2.wr, rfl, ?_, h6.hB, by rw [hs]; exact h6.he, ?_, fun j hj => ?_, h8, ?_⟩, hs.symm, e2.symm, h6, fun _ _ => rfl⟩, hk0⟩
    · show m2.reg 1 = 0; rw [g2.reg]; exact h2.r1
    · show RootOk B (m2.reg 2); rw [e2]; exact h6.hr
    · show 0 ≤ m2.reg (19 + j) ∧ m2.reg (19 + j) ≤ X; rw [g2.reg]; exact h7 j hj
    · show m2.writes ≤ ((Y + 1 : Nat) : Int); rw [g2.wr]; omega
end
end Go.Proofs.YtphmfaddgpjndaaGreat

/- What operations do, case by case (no program in sight). -/
namespace Go.Proofs.YtphmfaddgpjndaaGreat
open Go.ChangeShapes Go.WideShapes Go.RowKit Go.Maps

theorem carve_at_k (B : Bs) {k t : Nat} (hk : k < B.n) : k < (B.carve k t).n ∧ (B.carve k t).at k = B.at k ∧ (B.carve k t).sz k = t ∧ (B.carve k t).us k = true := by
  refine ⟨?_, carve_lo (Nat.le_refl _), ?_, ?_⟩
  · rw [carve_n]; split <;> omega
  · unfold Bs.carve
    split
    · rename_i e; exact e.symm
    · show (if k < k then _ else if k = k then t else _) = t
      rw [if_neg (by omega), if_pos rfl]
  · unfold Bs.carve
    split
    · show (if k = k then true else _) = true; rw [if_pos rfl]
    · show (if k < k then _ else if k = k then true else _) = true
      rw [if_neg (by omega), if_pos rfl]
/-- a block taken of one that is free -/
theorem Did.alloc0 {N : Nat} {W W' : Nat → Int} {r r' : Int} {op : OpN} {err o : Int} {n : Nat} {c : Nat → Int} {B' : Bs} (h : Did (B0 N) W r op err o W' r' n c B') (hk : op.kind = 1) (h0 : needN op.n ≠ 0) (hN : needN op.n ≤ N) :
    err = 0 ∧ o = 8 ∧ W' = carW (B0 N) W 0 (needN op.n) ∧ r' = r ∧ B' = (B0 N).carve 0 (takesN N (needN op.n)) := by
  cases h
  case allocArg h => exact absurd h h0
  case allocNone _ h => exact absurd ⟨rfl, hN⟩ (h 0 (by show 0 < 1; omega))
  case allocOk k _ _ hk2 _ _ =>
    have : k < 1 := hk2
    obtain rfl : k = 0 := by omega
    exact ⟨rfl, rfl, rfl, rfl, rfl⟩
  all_goals (exfalso; omega)
theorem Did.readOk' {B : Bs} {W W' : Nat → Int} {r r' : Int} {op : OpN} {err o : Int} {n : Nat} {c : Nat → Int} {B' : Bs} (h : Did B W r op err o W' r' n c B') (hk : op.kind = 3) (hh : holdsN B op.off op.n = true) :
    err = 0 ∧ o = 0 ∧ n = op.n.toNat ∧ (c = fun i => byteW W (op.off.toNat + i)) ∧ W' = W ∧ r' = r ∧ B' = B := by
  cases h
  case readArg _ h => rw [hh] at h; cases h
  case readOk => exact ⟨rfl, rfl, rfl, rfl, rfl, rfl, rfl⟩
  all_goals (exfalso; omega)
theorem Did.writeOk' {B : Bs} {W W' : Nat → Int} {r r' : Int} {op : OpN} {err o : Int} {n : Nat} {c : Nat → Int} {B' : Bs} (h : Did B W r op err o W' r' n c B') (hk : op.kind = 4) (hh : holdsN B op.off op.k = true) :
    err = 0 ∧ o = 0 ∧ W' = wroteW W op.off.toNat op.k op.c ∧ r' = r ∧ B' = B := by
  cases h
  case writeArg _ h => rw [hh] at h; cases h
  case writeOk => exact ⟨rfl, rfl, rfl, rfl, rfl⟩
  all_goals (exfalso; omega)
theorem Did.freeOk' {B : Bs} {W W' : Nat → Int} {r r' : Int} {op : OpN} {err o : Int} {n : Nat} {c : Nat → Int} {B' : Bs} (h : Did B W r op err o W' r' n c B') (hk : op.kind = 2) {i0 : Nat} (hi0 : i0 < B.n) (hf : findP op.off (B.at i0, B.sz i0, B.us i0) = true) (hr : r ≠ op.off) :
    err = 0 ∧ o = 0 ∧ r' = r ∧ ∃ i, i < B.n ∧ findP op.off (B.at i, B.sz i, B.us i) = true ∧ W' = merW B W (fromM B i) (toM B i) ∧ B' = B.merge (fromM B i) (toM B i) := by
  cases h
  case freeArg _ h => rw [h i0 hi0] at hf; cases hf
  case freeRoot h => exact absurd h hr
  case freeOk i _ h1 h2 _ => exact ⟨rfl, rfl, rfl, i, h1, h2, rfl, rfl⟩
  all_goals (exfalso; omega)
theorem findP_first {B : Bs} (hu : B.us 0 = true) : findP 8 (B.at 0, B.sz 0, B.us 0) = true := by
  unfold findP offN
  rw [hu]
  rfl
theorem holds_first {B : Bs} {N : Nat} (hB : B.Ok N) (hu : B.us 0 = true) {n : Int} (hn : 0 ≤ n ∧ n ≤ 448) (hz : n ≤ ((B.sz 0 - 1) * 8 : Nat)) : holdsN B 8 n = true := by
  have h1 := hB.count
  have h2 := hB.two 0 (by omega)
  have e0 : B.at 0 = 0 := rfl
  rw [holdsN_iff hB]
  refine ⟨hn, 0, by omega, hu, ?_, ?_⟩
  · rw [e0]; decide
  · rw [e0]; omega
def P0 : Pl := ⟨4, 1, 2, 2⟩
theorem P0_ok : P0.Ok := ⟨by decide, by decide, by decide, by decide⟩
theorem below_list {w0 w w' : World} {L : List Nat} (h : Below w0.heap.size w0 w) (k : Kept L w w') (hL : ∀ x ∈ L, w0.heap.size ≤ x) : Below w0.heap.size w0 w' := h.trans (k.below h.size hL)
theorem ans_parts {w w' : World} {L : List Nat} {g : Nat} {c : Array Value} {t : TypeId} (h : obj w g = some (.cells c t (0, 0))) (k : Kept L w w') (hg : g ∉ L) : obj w' g = some (.cells c t (0, 0)) := k.keep h hg
end Go.Proofs.YtphmfaddgpjndaaGreat

/- awake. -/
namespace Go.Proofs.YtphmfaddgpjndaaGreat
open Go.ChangeShapes Go.WideShapes Go.RowKit Go.Maps

theorem TwD.below {w w' : World} {TW Mb Cb : Nat} {p : Pl} {B : Bs} {W : Nat → Int} {r : Int} {X Y : Nat} {kept : Nat → Int} (h : TwD w TW Mb Cb p B W r X Y kept) (k : Below w.heap.size w w') : TwD w' TW Mb Cb p B W r X Y kept := by
  obtain ⟨m, hv, cost, h1, h2, h3⟩ := h
  exact ⟨m, hv, cost, keep k h1, h2.below k, h3⟩
theorem TwD.lts {w : World} {TW Mb Cb : Nat} {p : Pl} {B : Bs} {W : Nat → Int} {r : Int} {X Y : Nat} {kept : Nat → Int} (h : TwD w TW Mb Cb p B W r X Y kept) : ∀ x ∈ [TW, Mb, Cb], x < w.heap.size := by
  obtain ⟨m, hv, cost, h1, h2, h3⟩ := h
  have a1 := lt_of_obj h1
  have a2 := h2.hM.lt
  have a3 := h2.hL.lt
  intro x hx
  simp at hx
  omega
theorem list_parts {b b' : HB} {TW : Nat} {Q : Nat → Prop} (h1 : b'.Mb = b.Mb) (h2 : b'.Cb = b.Cb) (hQ : ∀ x ∈ [TW, b.Mb, b.Cb], Q x) (hF : ∀ x ∈ [b'.HP, b'.TU, b'.LN, b'.LG, b'.C, b'.g1, b'.g2], Q x) : ∀ x ∈ TW :: b'.list, Q x := by
  intro x hx
  unfold HB.list at hx
  simp only [List.mem_cons, List.not_mem_nil, or_false] at hx
  rcases hx with rfl | rfl | rfl | rfl | rfl | rfl | rfl | rfl | rfl | rfl
  · exact hQ _ (by simp)
  · exact hF _ (by simp)
  · rw [h1]; exact hQ _ (by simp)
  · rw [h2]; exact hQ _ (by simp)
  all_goals exact hF _ (by simp)
set_option maxRecDepth 100000 in
set_option maxHeartbeats 6400000 in
theorem awake_any (w : World) : Calls Tryz.prog 10 #[] w fun e w' => e = .returned (.bool true) ∧ Below w.heap.size w w' := by
  have KN := tnew_any (w := w) P0_ok
  have ev : P0.v = .agg #[.int .i64 4, .int .i64 1, .int .i64 2, .int .i64 2] := rfl
  rw [ev] at KN
  have KN := Lib.hid KN
  clear ev
  go_enter Tryz.func10, Tryz.ntmps10
  go_wp2_with fail
  refine KN.out.mono ?_
  rintro _ w1 ⟨TW, b, W, rfl, htw, hW, hfr, hb⟩
  have HB1 := Lib.hid hb
  have HFR := Lib.hid hfr
  have KA := Lib.hid (tdo_any htw (by omega) (by omega) ⟨1, 0, 9, 0, 0, fun _ => 0⟩ (by decide) (by decide) (sl_nil w1 0 _) (fun i hi => by simp at hi))
  unfold opV at KA
  clear htw hW hfr hb KN
  go_wp2_with fail
  refine KA.out.mono ?_
  rintro _ w2 ⟨err, o, v, W', W2, r', n, c, B', now', rfl, htw, hww, hle, hsl, hdid, hk⟩
  obtain ⟨rfl, rfl, rfl, rfl, rfl⟩ := hdid.alloc0 rfl (by decide) (by decide)
  obtain ⟨aov, capv, rfl⟩ := hsl.form
  have HB2 := Lib.hid (below_list HB1.out hk HFR.out)
  have hqa := newA w2 (.cells #[.int .i64 0, .int .i64 8, .slice aov n capv] 32)
  have HB2a := Lib.hid (HB2.out.alloc HB2.out.size (.cells #[.int .i64 0, .int .i64 8, .slice aov n capv] 32))
  have htw2 := htw.below ((Below.refl w2.heap.size w2).alloc (Nat.le_refl _) (.cells #[.int .i64 0, .int .i64 8, .slice aov n capv] 32))
  have HLA : Hid (∀ x ∈ TW :: b.list, x ≠ w2.heap.size) := Lib.hid (fun x hx => by have := htw.lts x hx; omega)
  unfold ansV
  clear hsl hk hww hdid KA
  go_wp2_with fail
  generalize w2.alloc (.cells #[.int .i64 0, .int .i64 8, .slice aov n capv] 32) = w3 at hqa HB2a htw2 ⊢
  obtain ⟨ga, hga⟩ : ∃ x, w2.heap.size = x := ⟨_, rfl⟩
  rw [hga] at hqa HLA ⊢
  have HQA := Lib.hid hqa
  have KC := Lib.hid (tdo_cut htw2 (by omega) (by omega) 0)
  unfold opV at KC
  clear hga hqa htw2 htw HB2
  refine KC.out.mono ?_
  rintro _ w4 ⟨rfl, htc, hk⟩
  have HQ4 := Lib.hid (hk.keep HQA.out (by have := HLA.out; intro hx; exact this ga (by unfold HB.list; simp at hx ⊢; omega) rfl))
  have HB4 := Lib.hid (below_list HB2a.out hk (fun x hx => HFR.out x (by unfold HB.list; simp at hx ⊢; omega)))
  have hcu := carve_at_k (B0 (P0.L * 8)) (k := 0) (t := takesN (P0.L * 8) (needN 9)) (by decide)
  have KF := Lib.hid (tdo_free_cut htc 8 0 0 hcu.1 (findP_first hcu.2.2.2) (by decide))
  unfold opV at KF
  unfold ansV
  clear htc hk KC HQA HB2a
  go_wp2_with fail
  refine KF.out.mono ?_
  rintro _ w5 ⟨rfl, ⟨kept, htd⟩, hk⟩
  have HQ5 := Lib.hid (hk.keep HQ4.out (fun hx => HLA.out ga hx rfl))
  have HB5 := Lib.hid (below_list HB4.out hk HFR.out)
  have hqb := newA w5 (.cells #[.int .i64 2, .int .i64 0, .slice none 0 0] 32)
  have hqa5 := keepA (.cells #[.int .i64 2, .int .i64 0, .slice none 0 0] 32) HQ5.out
  have HB5a := Lib.hid (HB5.out.alloc HB5.out.size (.cells #[.int .i64 2, .int .i64 0, .slice none 0 0] 32))
  have HTD := Lib.hid (htd.below ((Below.refl w5.heap.size w5).alloc (Nat.le_refl _) (.cells #[.int .i64 2, .int .i64 0, .slice none 0 0] 32)))
  have hmb := htd.lts
  have HLB : Hid (∀ x ∈ [TW, b.Mb, b.Cb], x ≠ w5.heap.size) := Lib.hid (fun x hx => by have := hmb x hx; omega)
  unfold ansV
  clear hk KF HQ4 HB4 htd hmb
  go_wp2_with fail
  generalize w5.alloc (.cells #[.int .i64 2, .int .i64 0, .slice none 0 0] 32) = w6 at hqa5 hqb HB5a HTD ⊢
  obtain ⟨gb, hgb⟩ : ∃ x, w5.heap.size = x := ⟨_, rfl⟩
  rw [hgb] at hqb HLB ⊢
  have HQA6 := Lib.hid hqa5
  have HQB6 := Lib.hid hqb
  have KS := Lib.hid (tdo_start HTD.out 0 0 0 (k := 0) (ao := none) (cap := 0))
  unfold opV at KS
  clear hgb hqb hqa5 HB5 HQ5
  refine KS.out.mono ?_
  rintro _ w7 ⟨b', now2, rfl, h1, h2, htw, hnow, hfr2, hk⟩
  have hla := HLA.out
  have hlb := HLB.out
  have hfr := HFR.out
  have hs6 := HB5a.out.size
  have hg1 := lt_of_obj HQA6.out
  have hg2 := lt_of_obj HQB6.out
  have hq7 := hk.keep HQA6.out (fun hx => hla ga (by unfold HB.list; simp at hx ⊢; omega) rfl)
  have hr7 := hk.keep HQB6.out (fun hx => hlb gb (by simp at hx ⊢; omega) rfl)
  have HB7 := Lib.hid (below_list HB5a.out hk (fun x hx => hfr x (by unfold HB.list; simp at hx ⊢; omega)))
  have HFR7 : Hid (∀ x ∈ TW :: b'.list, w.heap.size ≤ x ∧ x ≠ ga ∧ x ≠ gb) := Lib.hid (list_parts h1 h2 (fun x hx => ⟨hfr x (by unfold HB.list; simp at hx ⊢; rcases hx with h | h | h <;> simp [h]), hla x (by unfold HB.list; simp at hx ⊢; rcases hx with h | h | h <;> simp [h]), hlb x hx⟩) (fun x hx => by have := hfr2 x hx; exact ⟨by omega, by omega, by omega⟩))
  have hx7 := newA w7 (.cells #[.int .i64 0, .int .i64 0, .slice none 0 0] 32)
  have hq8 := keepA (.cells #[.int .i64 0, .int .i64 0, .slice none 0 0] 32) hq7
  have hr8 := keepA (.cells #[.int .i64 0, .int .i64 0, .slice none 0 0] 32) hr7
  have HB8 := Lib.hid (HB7.out.alloc HB7.out.size (.cells #[.int .i64 0, .int .i64 0, .slice none 0 0] 32))
  have htw8 := htw.below ((Below.refl w7.heap.size w7).alloc (Nat.le_refl _) (.cells #[.int .i64 0, .int .i64 0, .slice none 0 0] 32))
  have hlt7 := htw.lts
  unfold ansV
  clear hk hla hlb hfr hs6 hg1 hg2 KS hq7 hr7 HQA6 HQB6 HTD htw hfr2 HB5a
  go_wp2_with fail
  generalize w7.alloc (.cells #[.int .i64 0, .int .i64 0, .slice none 0 0] 32) = w8 at hx7 hq8 hr8 HB8 htw8 ⊢
  obtain ⟨gc, hgc⟩ : ∃ x, w7.heap.size = x := ⟨_, rfl⟩
  rw [hgc] at hx7 hlt7 ⊢
  have HX8 := Lib.hid (And.intro hx7 (And.intro hq8 hr8))
  have hst := htw8.st
  have KR := Lib.hid (tdo_any htw8 (by omega) (by omega) ⟨3, 8, 9, 0, 0, fun _ => 0⟩ (by decide) (by decide) (sl_nil w8 0 _) (fun i hi => by simp at hi))
  have HHO : Hid (holdsN ((B0 (P0.L * 8)).carve 0 (takesN (P0.L * 8) (needN 9))) 8 9 = true) := Lib.hid (holds_first hst.hB hcu.2.2.2 (by decide) (by rw [hcu.2.2.1]; decide))
  have HLT7 := Lib.hid hlt7
  unfold opV at KR
  clear hgc hx7 hq8 hr8 htw8 hst hcu hlt7 HB7
  refine KR.out.mono ?_
  rintro _ w9 ⟨err, o, v9, W9, W10, r9, n9, c9, B9, now9, rfl, htw9, _, _, hsl, hdid, hk⟩
  obtain ⟨rfl, rfl, hn9, _⟩ := hdid.readOk' rfl HHO.out
  replace hn9 : n9 = 9 := hn9
  subst hn9
  obtain ⟨ao9, cap9, rfl⟩ := hsl.form
  have hf7 := HFR7.out
  have hl7 := HLT7.out
  have hq9 := hk.keep HX8.out.2.1 (fun hx => (hf7 ga hx).2.1 rfl)
  have hr9 := hk.keep HX8.out.2.2 (fun hx => (hf7 gb hx).2.2 rfl)
  have hx9 := hk.keep HX8.out.1 (fun hx => by have := hl7 gc hx; omega)
  have HB9 := Lib.hid (below_list HB8.out hk (fun x hx => (hf7 x hx).1))
  have hq10 := keepA (.cells #[.int .i64 0, .int .i64 0, .slice ao9 9 cap9] 32) hq9
  have hr10 := keepA (.cells #[.int .i64 0, .int .i64 0, .slice ao9 9 cap9] 32) hr9
  have hx10 := keepA (.cells #[.int .i64 0, .int .i64 0, .slice ao9 9 cap9] 32) hx9
  have hy10 := newA w9 (.cells #[.int .i64 0, .int .i64 0, .slice ao9 9 cap9] 32)
  have HB10 := Lib.hid (HB9.out.alloc HB9.out.size (.cells #[.int .i64 0, .int .i64 0, .slice ao9 9 cap9] 32))
  unfold ansV
  clear hk hf7 hl7 hq9 hr9 hx9 hsl hdid htw9 KR HX8
  go_wp2_with fail
  go_ret
  exact ⟨rfl, HB10.out⟩
end Go.Proofs.YtphmfaddgpjndaaGreat

/- darninglaw21.Plan, small. -/
namespace Go.Proofs.YtphmfaddgpjndaaGreat
open Go.ChangeShapes Go.WideShapes Go.RowKit Go.Maps

/-- a plan of raw numbers -/
def smallP (l s q t : Int) : Pl := ⟨1 + (l % 18446744073709551616 % 24).toNat, (s % 18446744073709551616 % 17).toNat, 1 + (q % 18446744073709551616 % 30).toNat, 1 + (t % 18446744073709551616 % 10).toNat⟩
theorem smallP_ok (l s q t : Int) : (smallP l s q t).Ok := by
  unfold smallP
  refine ⟨?_, ?_, ?_, ?_⟩ <;> simp only <;> omega
theorem smallP_le (l s q t : Int) : (smallP l s q t).L ≤ 24 := by unfold smallP; simp only; omega
theorem smallP_v (l s q t : Int) : (smallP l s q t).v = .agg #[.int .i64 (1 + l % 18446744073709551616 % 24), .int .i64 (s % 18446744073709551616 % 17), .int .i64 (1 + q % 18446744073709551616 % 30), .int .i64 (1 + t % 18446744073709551616 % 10)] := by
  unfold smallP Pl.v
  simp only
  have h1 : (((1 + (l % 18446744073709551616 % 24).toNat : Nat)) : Int) = 1 + l % 18446744073709551616 % 24 := by omega
  have h2 : (((s % 18446744073709551616 % 17).toNat : Nat) : Int) = s % 18446744073709551616 % 17 := by omega
  have h3 : (((1 + (q % 18446744073709551616 % 30).toNat : Nat)) : Int) = 1 + q % 18446744073709551616 % 30 := by omega
  have h4 : (((1 + (t % 18446744073709551616 % 10).toNat : Nat)) : Int) = 1 + t % 18446744073709551616 % 10 := by omega
  rw [h1, h2, h3, h4]
theorem mod_u (x m : Int) (h : 0 < m ∧ m ≤ 1000) : wrap64 ((IntKind.u64.wrap x).tmod m) = x % 18446744073709551616 % m := by
  rw [IntKind.wrap_u64, Int.tmod_eq_emod_of_nonneg (by omega)]
  have h1 := Int.emod_lt_of_pos (x % 18446744073709551616) h.1
  have h2 := Int.emod_nonneg (x % 18446744073709551616) (b := m) (by omega)
  unfold wrap64
  omega
theorem mod_u1 (x m : Int) (h : 0 < m ∧ m ≤ 1000) : wrap64 (1 + wrap64 ((IntKind.u64.wrap x).tmod m)) = 1 + x % 18446744073709551616 % m := by
  rw [mod_u x m h]
  have h1 := Int.emod_lt_of_pos (x % 18446744073709551616) h.1
  have h2 := Int.emod_nonneg (x % 18446744073709551616) (b := m) (by omega)
  unfold wrap64
  omega
theorem res25 (tmps : Array Value) (g : Nat) (a1 a2 a3 a4 : Value) (w : World) (ht : tmps.getD 8 undef = .pointer (some ⟨g, 0, none⟩)) (hg : obj w g = some (.cells #[a1, a2, a3, a4] 23 (0, 0))) :
    (results Tryz.f25 tmps).run Tryz.prog w = .ok (.agg #[a1, a2, a3, a4]) w := by
  have c0 : cellAt (obj w g) 0 = some a1 := by rw [hg]; rfl
  have c1 : cellAt (obj w g) 1 = some a2 := by rw [hg]; rfl
  have c2 : cellAt (obj w g) 2 = some a3 := by rw [hg]; rfl
  have c3 : cellAt (obj w g) 3 = some a4 := by rw [hg]; rfl
  have ht2 : tmps[8]?.getD undef = .pointer (some ⟨g, 0, none⟩) := by rw [← ht]; simp [Array.getD_eq_getD_getElem?]
  simp [results, Tryz.results25, go_sem, ht2, c0, c1, c2, c3]
theorem res7 (tmps : Array Value) (g : Nat) (a1 a2 a3 a4 : Value) (w : World) (ht : tmps.getD 2 undef = .pointer (some ⟨g, 0, none⟩)) (hg : obj w g = some (.cells #[a1, a2, a3, a4] 23 (0, 0))) :
    (results Tryz.f7 tmps).run Tryz.prog w = .ok (.agg #[a1, a2, a3, a4]) w := by
  have c0 : cellAt (obj w g) 0 = some a1 := by rw [hg]; rfl
  have c1 : cellAt (obj w g) 1 = some a2 := by rw [hg]; rfl
  have c2 : cellAt (obj w g) 2 = some a3 := by rw [hg]; rfl
  have c3 : cellAt (obj w g) 3 = some a4 := by rw [hg]; rfl
  have ht2 : tmps[2]?.getD undef = .pointer (some ⟨g, 0, none⟩) := by rw [← ht]; simp [Array.getD_eq_getD_getElem?]
  simp [results, Tryz.results7, go_sem, ht2, c0, c1, c2, c3]
set_option maxRecDepth 100000 in
set_option maxHeartbeats 3200000 in
theorem plan_any (l s q t : Int) (w : World) : Calls Tryz.prog 25 #[.int .i64 l, .int .i64 s, .int .i64 q, .int .i64 t] w fun e w' => e = .returned (smallP l s q t).v ∧ Below w.heap.size w w' := by
  rw [smallP_v]
  go_enter Tryz.func25, Tryz.ntmps25
  go_wp2
  rw [mod_u1 l 24 (by decide), mod_u s 17 (by decide), mod_u1 q 30 (by decide), mod_u1 t 10 (by decide)]
  have hq := newA w (.cells #[.int .i64 (1 + l % 18446744073709551616 % 24), .int .i64 (s % 18446744073709551616 % 17), .int .i64 (1 + q % 18446744073709551616 % 30), .int .i64 (1 + t % 18446744073709551616 % 10)] 23)
  exact ⟨rfl, _, res25 _ w.heap.size _ _ _ _ _ rfl hq, rfl, (Below.refl _ _).alloc (Nat.le_refl _) _⟩
set_option maxRecDepth 100000 in
set_option maxHeartbeats 3200000 in
theorem small_any (l s q t : Int) (w : World) : Calls Tryz.prog 7 #[.agg #[.int .i64 l, .int .i64 s, .int .i64 q, .int .i64 t]] w fun e w' => e = .returned (smallP l s q t).v ∧ Below w.heap.size w w' := by
  have KP := fun w => plan_any l s q t w
  rw [smallP_v] at KP
  have KP := Lib.hid KP
  rw [smallP_v]
  generalize 1 + l % 18446744073709551616 % 24 = a1 at KP ⊢
  generalize s % 18446744073709551616 % 17 = a2 at KP ⊢
  generalize 1 + q % 18446744073709551616 % 30 = a3 at KP ⊢
  generalize 1 + t % 18446744073709551616 % 10 = a4 at KP ⊢
  have hq := newA (w.alloc (.cells #[.int .i64 l, .int .i64 s, .int .i64 q, .int .i64 t] 23)) (.cells #[.int .i64 0, .int .i64 0, .int .i64 0, .int .i64 0] 23)
  have hb1 : Below w.heap.size w (w.alloc (.cells #[.int .i64 l, .int .i64 s, .int .i64 q, .int .i64 t] 23)) := (Below.refl _ _).alloc (Nat.le_refl _) _
  have HB2 := Lib.hid (hb1.alloc hb1.size (.cells #[.int .i64 0, .int .i64 0, .int .i64 0, .int .i64 0] 23))
  have hsz : (w.alloc (.cells #[.int .i64 l, .int .i64 s, .int .i64 q, .int .i64 t] 23)).heap.size = w.heap.size + 1 := by simp
  rw [hsz] at hq
  clear hb1 hsz
  go_enter Tryz.func7, Tryz.ntmps7
  go_wp2_with fail
  generalize (w.alloc (.cells #[.int .i64 l, .int .i64 s, .int .i64 q, .int .i64 t] 23)).alloc (.cells #[.int .i64 0, .int .i64 0, .int .i64 0, .int .i64 0] 23) = w2 at hq HB2 ⊢
  refine (KP.out _).mono ?_
  rintro _ w3 ⟨rfl, hb⟩
  have hq3 := keep hb hq
  have hql := lt_of_obj hq3
  have HB3 := Lib.hid (HB2.out.trans (hb.mono HB2.out.size))
  clear hb hq
  go_wp2_with fail
  have k5 : Kept [w.heap.size + 1] w3 ((((w3.setCell ⟨w.heap.size + 1, 0, none⟩ (.int .i64 a1)).setCell ⟨w.heap.size + 1, 1, none⟩ (.int .i64 a2)).setCell ⟨w.heap.size + 1, 2, none⟩ (.int .i64 a3)).setCell ⟨w.heap.size + 1, 3, none⟩ (.int .i64 a4)) :=
    ((((Kept.refl [w.heap.size + 1] w3).setCell (p := ⟨w.heap.size + 1, 0, none⟩) _ (Or.inl (by simp))).setCell (p := ⟨w.heap.size + 1, 1, none⟩) _ (Or.inl (by simp))).setCell (p := ⟨w.heap.size + 1, 2, none⟩) _ (Or.inl (by simp))).setCell (p := ⟨w.heap.size + 1, 3, none⟩) _ (Or.inl (by simp))
  exact ⟨rfl, _, res7 _ (w.heap.size + 1) (.int .i64 a1) (.int .i64 a2) (.int .i64 a3) (.int .i64 a4) _ rfl (by simp [obj_setCell_eq, hq3, setAt]), rfl, below_list HB3.out k5 (fun x hx => by simp at hx; omega)⟩
end Go.Proofs.YtphmfaddgpjndaaGreat

/- Which blocks are used; a row of bytes made anew. -/
namespace Go.Proofs.YtphmfaddgpjndaaGreat
open Go.ChangeShapes Go.WideShapes Go.RowKit Go.Maps

theorem carve_back {B : Bs} {N k t : Nat} (hB : B.Ok N) (hk : k < B.n) (ht : t ≤ B.sz k) {j : Nat} (hj : j < (B.carve k t).n) (hu : (B.carve k t).us j = true) : j = k ∨ ∃ i, i < B.n ∧ i ≠ k ∧ B.at i = (B.carve k t).at j ∧ B.sz i = (B.carve k t).sz j ∧ B.us i = true := by
  by_cases e : t = B.sz k
  · by_cases ej : j = k
    · exact Or.inl ej
    · right
      rw [carve_n, if_pos e] at hj
      refine ⟨j, hj, ej, (carve_full_at e j).symm, ?_, ?_⟩
      · unfold Bs.carve; rw [if_pos e]
      · unfold Bs.carve at hu; rw [if_pos e] at hu
        have : (if j = k then true else B.us j) = true := hu
        rwa [if_neg ej] at this
  · rw [carve_n, if_neg e] at hj
    have hus : (if j < k then B.us j else if j = k then true else if j = k + 1 then false else B.us (j - 1)) = true := by unfold Bs.carve at hu; rw [if_neg e] at hu; exact hu
    have hsz : (B.carve k t).sz j = if j < k then B.sz j else if j = k then t else if j = k + 1 then B.sz k - t else B.sz (j - 1) := by unfold Bs.carve; rw [if_neg e]
    by_cases e1 : j < k
    · right
      rw [if_pos e1] at hus
      exact ⟨j, by omega, by omega, (carve_lo (by omega)).symm, by rw [hsz, if_pos e1], hus⟩
    · rw [if_neg e1] at hus
      by_cases e2 : j = k
      · exact Or.inl e2
      · rw [if_neg e2] at hus
        by_cases e3 : j = k + 1
        · rw [if_pos e3] at hus; cases hus
        · rw [if_neg e3] at hus
          right
          obtain ⟨x, rfl⟩ : ∃ x, j = k + 2 + x := ⟨j - k - 2, by omega⟩
          refine ⟨k + 1 + x, by omega, by omega, (carve_hi e ht x).symm, ?_, ?_⟩
          · rw [hsz, if_neg e1, if_neg e2, if_neg e3]; congr 1; omega
          · rw [← hus]; congr 1; omega
theorem merge_back {B : Bs} {f t : Nat} (hft : f < t) (ht : t ≤ B.n) {j : Nat} (hj : j < (B.merge f t).n) (hu : (B.merge f t).us j = true) : ∃ i, i < B.n ∧ (i < f ∨ t ≤ i) ∧ B.at i = (B.merge f t).at j ∧ B.sz i = (B.merge f t).sz j ∧ B.us i = true := by
  have hj : j < B.n - (t - f) + 1 := hj
  have hu : (if j < f then B.us j else if j = f then false else B.us (j + (t - f) - 1)) = true := hu
  have hsz : (B.merge f t).sz j = if j < f then B.sz j else if j = f then B.at t - B.at f else B.sz (j + (t - f) - 1) := rfl
  by_cases e1 : j < f
  · rw [if_pos e1] at hu
    exact ⟨j, by omega, Or.inl e1, (merge_lo (by omega)).symm, by rw [hsz, if_pos e1], hu⟩
  · rw [if_neg e1] at hu
    by_cases e2 : j = f
    · rw [if_pos e2] at hu; cases hu
    · rw [if_neg e2] at hu
      obtain ⟨x, rfl⟩ : ∃ x, j = f + 1 + x := ⟨j - f - 1, by omega⟩
      refine ⟨t + x, by omega, Or.inr (by omega), (merge_hi hft x).symm, ?_, ?_⟩
      · rw [hsz, if_neg e1, if_neg e2]; congr 1; omega
      · rw [← hu]; congr 1; omega
/-- an offset is a used block's -/
def Used (B : Bs) (a : Nat) (s : Nat) : Prop := ∃ i, i < B.n ∧ B.us i = true ∧ B.at i = a ∧ B.sz i = s
theorem used_carve {B : Bs} {N k t : Nat} (hB : B.Ok N) (hk : k < B.n) (hu : B.us k = false) (ht : t ≤ B.sz k) (a s : Nat) : Used (B.carve k t) a s ↔ Used B a s ∨ (a = B.at k ∧ s = t) := by
  have hc := carve_at_k B (k := k) (t := t) hk
  constructor
  · rintro ⟨j, hj, h1, h2, h3⟩
    rcases carve_back hB hk ht hj h1 with rfl | ⟨i, hi, _, e1, e2, e3⟩
    · exact Or.inr ⟨by rw [← h2, hc.2.1], by rw [← h3, hc.2.2.1]⟩
    · exact Or.inl ⟨i, hi, e3, by rw [e1, h2], by rw [e2, h3]⟩
  · rintro (⟨i, hi, h1, h2, h3⟩ | ⟨rfl, rfl⟩)
    · obtain ⟨j, hj, e1, e2, e3⟩ := carve_keeps hB hk ht hi (fun e => by rw [e, hu] at h1; cases h1)
      exact ⟨j, hj, by rw [e3, h1], by rw [e1, h2], by rw [e2, h3]⟩
    · exact ⟨k, hc.1, hc.2.2.2, hc.2.1, hc.2.2.1⟩
theorem used_merge {B : Bs} {N i f t : Nat} (hB : B.Ok N) (ha : Around B i f t) (a s : Nat) : Used (B.merge f t) a s ↔ Used B a s ∧ a ≠ B.at i := by
  have h1 := ha.lo
  have h2 := ha.hi
  constructor
  · rintro ⟨j, hj, h3, h4, h5⟩
    obtain ⟨x, hx, hxo, e1, e2, e3⟩ := merge_back (by omega) h2 hj h3
    exact ⟨⟨x, hx, e3, by rw [e1, h4], by rw [e2, h5]⟩, fun e => by
      have := at_inj hB hx (show i < B.n by omega) (by rw [e1, h4, e])
      omega⟩
  · rintro ⟨⟨x, hx, h3, h4, h5⟩, hne⟩
    obtain ⟨j, hj, e1, e2, e3⟩ := merge_keeps (f := f) (t := t) (by omega) h2 hx (by
      rcases Nat.lt_or_ge x f with c | c
      · exact Or.inl c
      · rcases Nat.lt_or_ge x t with c2 | c2
        · exfalso
          by_cases e : x = i
          · exact hne (by rw [← h4, e])
          · rw [ha.free x c c2 e] at h3; cases h3
        · exact Or.inr c2)
    exact ⟨j, hj, by rw [e3, h3], by rw [e1, h4], by rw [e2, h5]⟩
/-- where nothing is used there is one free block -/
theorem none_used {B : Bs} {N : Nat} (hB : B.Ok N) (h : ∀ a s, ¬ Used B a s) : B.n = 1 ∧ B.us 0 = false ∧ B.sz 0 = N := by
  have hc := hB.count
  have hf : ∀ i, i < B.n → B.us i = false := fun i hi => by
    cases e : B.us i
    · rfl
    · exact absurd ⟨i, hi, e, rfl, rfl⟩ (h _ _)
  have h1 : B.n = 1 := by
    rcases Nat.lt_or_ge 1 B.n with c | c
    · rcases hB.alt 0 (by omega) with e | e
      · rw [hf 0 (by omega)] at e; cases e
      · rw [hf 1 (by omega)] at e; cases e
    · omega
  refine ⟨h1, hf 0 (by omega), ?_⟩
  have := hB.sum
  rw [h1] at this
  have e : B.at 1 = 0 + B.sz 0 := rfl
  omega
theorem B0_used (N a s : Nat) : ¬ Used (B0 N) a s := by
  rintro ⟨i, _, h, _⟩
  cases h
/-- a block taken of one that is free -/
theorem Did.alloc1 {B : Bs} {W W' : Nat → Int} {r r' : Int} {op : OpN} {err o : Int} {n : Nat} {c : Nat → Int} {B' : Bs} (h : Did B W r op err o W' r' n c B') (h1 : B.n = 1 ∧ B.us 0 = false) (hk : op.kind = 1) (h0 : needN op.n ≠ 0) (hN : needN op.n ≤ B.sz 0) :
    err = 0 ∧ o = 8 ∧ W' = carW B W 0 (needN op.n) ∧ r' = r ∧ B' = B.carve 0 (takesN (B.sz 0) (needN op.n)) := by
  cases h
  case allocArg h => exact absurd h h0
  case allocNone _ h => exact absurd ⟨h1.2, hN⟩ (h 0 (by omega))
  case allocOk k _ _ hk2 _ _ =>
    obtain rfl : k = 0 := by omega
    exact ⟨rfl, rfl, rfl, rfl, rfl⟩
  all_goals (exfalso; omega)
theorem findP_at {B : Bs} {N : Nat} (hB : B.Ok N) {i : Nat} (hi : i < B.n) {r : Int} (h : findP r (B.at i, B.sz i, B.us i) = true) : r = ((B.at i + 1) * 8 : Nat) := (findP_bound hB hi h).2.1
/-! ### bytes -/
/-- a row of bytes -/
def BytesIn (w : World) (g n : Nat) (f : Nat → Int) : Prop := ∃ c : Array Value, obj w g = some (.cells c 5 (0, 0)) ∧ c.size = n ∧ ∀ j, j < n → nth c j = some (.int .u8 (f j))
theorem BytesIn.sl {w : World} {g n : Nat} {f : Nat → Int} (h : BytesIn w g n f) (h0 : 0 < n) (hn : n ≤ 1000000) : SlOf w g (.slice (some ⟨g, 0, none⟩) n n) 1 n (fun i _ => .int .u8 (f i)) := by
  obtain ⟨c, h1, _, h2⟩ := h
  exact Or.inr ⟨g, 0, n, rfl, h0, Nat.le_refl _, by omega, Nat.le_refl _, fun i hi t ht => by
    obtain rfl : t = 0 := by omega
    rw [h1, Nat.zero_add, Nat.mul_one, Nat.add_zero]
    exact h2 i hi⟩
theorem BytesIn.kept {L : List Nat} {w w' : World} {g n : Nat} {f : Nat → Int} (h : BytesIn w g n f) (k : Kept L w w') (hg : g ∉ L) : BytesIn w' g n f := by
  obtain ⟨c, h1, h2⟩ := h
  exact ⟨c, k.keep h1 hg, h2⟩
theorem BytesIn.set {w : World} {g n : Nat} {f : Nat → Int} (h : BytesIn w g n f) (p : Nat) (a : Int) (hp : p < n) : BytesIn (w.setCell ⟨g, p, none⟩ (.int .u8 a)) g n (updI f p a) := by
  obtain ⟨c, h1, h2, h3⟩ := h
  refine ⟨c.setIfInBounds p (.int .u8 a), by rw [obj_setCell_eq, h1]; rfl, by simpa using h2, fun j hj => ?_⟩
  rw [nth_set (by omega)]
  unfold updI
  split
  · rfl
  · exact h3 j hj
theorem make_bytes (n : Nat) (w : World) (h0 : 0 < n) (hn : n ≤ 1000) : ∃ w', (Instr.makeSlice 30 (.int .i64 (n : Int)) (.int .i64 (n : Int))).run Tryz.prog w = .ok (.slice (some ⟨w.heap.size, 0, none⟩) n n) w' ∧
    BytesIn w' w.heap.size n (fun _ => 0) ∧ Below w.heap.size w w' := by
  obtain ⟨i0, hi0, hz0, hz1, hz2⟩ := info_parts' info5
  obtain ⟨w', h1, h2, h3⟩ := run_make_full (P := Tryz.prog) w w.heap.size 30 5 i0 _ 1 Tryz.underlying30 hi0 hz0 hz1 .i64 .i64 n (by rw [hz2]; omega) (by unfold maxLen; omega) (Nat.le_refl _)
  refine ⟨w', h1, ?_, (Below.refl _ _).grown h3 (Nat.le_refl _) (fun _ h => by cases h)⟩
  obtain ⟨cur, hg, hsz, hat⟩ := madeCells_at h2 h0 rfl (by decide)
  refine ⟨cur, hg, by omega, fun j hj => ?_⟩
  rw [hat j (by omega), show j % 1 = 0 by omega]
  rfl
end Go.Proofs.YtphmfaddgpjndaaGreat

/- What the Top laws' frames need: a plan as an argument, opened; what a law owes at its end. -/
namespace Go.Proofs.YtphmfaddgpjndaaGreat
open Go.ChangeShapes Go.WideShapes Go.ChangeAt Go.RowKit

theorem own : ownKnob Tryz.prog.godebug = none := by kernel_rfl
theorem laidOut : laidOutB Tryz.prog = true := by kernel_rfl
section
variable {H : Type} {enc : TypeId × Value → H} {P : Program}
/-- the arguments read as they did, where new blocks alone were made -/
theorem trodAll_stays (hl : laidOutB P = true) {W W' : World} (hb : Below W.heap.size W W') : ∀ {ts : List TypeId} {vs : List Value} {ds : List (DataW H)} {ps : List MemPlace},
    (∀ t ∈ ts, P.readableRec t = true ∧ t < P.types.size) → DataW.TrodAll enc P W 0 (fun _ => true) true ts vs ds ps → (∀ x ∈ ps, x.block < W.heap.size) →
    ∀ sp : Nat → Bool, (∀ p ∈ ps, sp p.block = true) → DataW.TrodAll enc P W' 0 sp true ts vs ds ps := by
  intro ts
  induction ts with
  | nil =>
    intro vs ds ps _ h _ sp _
    obtain ⟨rfl, rfl, rfl⟩ := trodAll_nil h
    exact trodAll_mk0
  | cons t ts ih =>
    intro vs ds ps hr h hlt sp hsp
    obtain ⟨v, vs', d, ds', p, q, rfl, rfl, rfl, h1, h2⟩ := trodAll_cons h
    refine trodAll_cons_mk ?_ (ih (fun t ht => hr t (by simp [ht])) h2 (fun x hx => hlt x (by simp [hx])) sp (fun x hx => hsp x (by simp [hx])))
    exact WideElems.Trod_stays hl (hr t (by simp)).1 (hr t (by simp)).2 h1 (fun x hx => hb.same (hlt x (by simp [hx]))) (fun x hx => hsp x (by simp [hx]))

end
theorem cells23 : Tryz.prog.cellsOf 23 = 4 := by kernel_rfl
theorem cells3 : Tryz.prog.cellsOf 3 = 1 := by kernel_rfl
theorem one_int {H : Type} {enc : TypeId × Value → H} {W : World} {base : Nat} {spare : Nat → Bool} {held : Bool} {fuel : Nat} {c : Array Value} {i : Nat} {y : Option (DataW H × List MemPlace)} (hy : y.isSome = true)
    (h : DataW.trod enc Tryz.prog W base spare held fuel 3 ((c.toList.drop i).take 1) = y) : ∃ z, c[i]? = some (.int .i64 z) := by
  obtain ⟨x, rfl⟩ := Option.isSome_iff_exists.1 hy
  obtain ⟨z, e1, _, _⟩ := DataW.trod_int Tryz.underlying3 h
  refine ⟨z, ?_⟩
  have : ((c.toList.drop i).take 1)[0]? = some (.int .i64 z) := by rw [e1]; rfl
  rw [List.getElem?_take, List.getElem?_drop] at this
  simpa using this
set_option maxRecDepth 100000 in
theorem open_plan {H : Type} {enc : TypeId × Value → H} {r : Reach} {b0 base : Nat} {spare : Nat → Bool} {held : Bool} {W : World} {v : Value} {d : DataW H} {ps : List MemPlace} (hval : Value.okWide Tryz.prog W r b0 23 v) (hd : DataW.Trod enc Tryz.prog W base spare held 23 v d ps) :
    ∃ l s q t : Int, v = .agg #[.int .i64 l, .int .i64 s, .int .i64 q, .int .i64 t] := by
  obtain ⟨c, rfl, hsz⟩ : ∃ c, v = .agg c ∧ c.size = Tryz.prog.cellsOf 23 := by
    cases v <;> simp [Value.okWide, Tryz.underlying23] at hval
    exact ⟨_, rfl, hval.1⟩
  rw [cells23] at hsz
  obtain ⟨fuel, hf⟩ := hd
  obtain ⟨xs, m, _, _, _, hl, hel⟩ := DataW.trod_struct Tryz.underlying23 hf
  have hl4 : xs.length = 4 := hl
  have e0 : DataW.trod enc Tryz.prog W base spare held m 3 ((c.toList.drop 0).take 1) = xs[0]? := by rw [← cells3]; exact hel 0 _ rfl
  have e1 : DataW.trod enc Tryz.prog W base spare held m 3 ((c.toList.drop 1).take 1) = xs[1]? := by rw [← cells3]; exact hel 1 _ rfl
  have e2 : DataW.trod enc Tryz.prog W base spare held m 3 ((c.toList.drop 2).take 1) = xs[2]? := by rw [← cells3]; exact hel 2 _ rfl
  have e3 : DataW.trod enc Tryz.prog W base spare held m 3 ((c.toList.drop 3).take 1) = xs[3]? := by rw [← cells3]; exact hel 3 _ rfl
  have hs : ∀ i, i < 4 → (xs[i]?).isSome = true := fun i hi => by rw [List.getElem?_eq_getElem (by omega)]; rfl
  obtain ⟨z0, h0⟩ := one_int (hs 0 (by decide)) e0
  obtain ⟨z1, h1⟩ := one_int (hs 1 (by decide)) e1
  obtain ⟨z2, h2⟩ := one_int (hs 2 (by decide)) e2
  obtain ⟨z3, h3⟩ := one_int (hs 3 (by decide)) e3
  refine ⟨z0, z1, z2, z3, ?_⟩
  congr 1
  apply Array.ext_getElem?
  intro i
  by_cases hi : i < 4
  · have : i = 0 ∨ i = 1 ∨ i = 2 ∨ i = 3 := by omega
    rcases this with rfl | rfl | rfl | rfl
    · rw [h0]; rfl
    · rw [h1]; rfl
    · rw [h2]; rfl
    · rw [h3]; rfl
  · rw [Array.getElem?_eq_none (by omega), Array.getElem?_eq_none (by simp; omega)]
/-- WHAT A LAW OWES AT ITS END: it answered true, made new blocks alone, and its arguments read as they did. -/
theorem law_post {H : Type} {enc : TypeId × Value → H} {P : Program} {f : Func} {s : ChangeSpec} {apart fresh handsOn again : Bool} {W W' : World} {args : Array Value} {ds : List (DataW H)} {ps : List MemPlace} {t : TypeId}
    (hW : DataW.Whole enc P f.params.toList s.vars apart W args.toList ds [] ps) (hb : Below W.heap.size W W') (hf : f.resultTypes = #[t]) (ht : P.underlying t = some .bool) (hv : s.vars = [])
    (hfn : s.fn H (ds ++ []) = { results := [.lit (.bool true)], args := ds, vars := [] })
    (hargs : ∀ sp : Nat → Bool, (∀ p ∈ ps, sp p.block = true) → DataW.TrodAll enc P W' 0 sp true f.params.toList args.toList ds ps) : s.post enc P f apart fresh handsOn again W args (.bool true) W' := by
  have old : ∀ p ∈ ps, p.block < W.heap.size := fun p hp => hW.lt p hp
  have lis : ((Value.bool true).resultList f.resultTypes.size) = [.bool true] := by rw [hf]; rfl
  have res : ∀ (b : Nat) (sp : Nat → Bool) (hd : Bool), DataW.TrodAll enc P W' b sp hd f.resultTypes.toList ((Value.bool true).resultList f.resultTypes.size) (s.fn H (ds ++ [])).results [] := by
    intro b sp hd
    rw [lis, hf, hfn]
    exact trodAll_cons_mk (shut_bool ht true) trodAll_mk0
  have arg : ∀ sp : Nat → Bool, (∀ p ∈ ps, sp p.block = true) → DataW.TrodAll enc P W' 0 sp true f.params.toList args.toList (s.fn H (ds ++ [])).args ps := by
    intro sp hsp; rw [hfn]; exact hargs sp hsp
  have var : ∀ sp : Nat → Bool, DataW.TrodVars enc P W' sp s.vars (s.fn H (ds ++ [])).vars [] := by
    intro sp; rw [hfn, hv]; rfl
  have ok : ∀ (j : Nat) (u : TypeId) (r : Value), f.resultTypes[j]? = some u → ((Value.bool true).resultList f.resultTypes.size)[j]? = some r → Value.okWide P W' .any 0 u r := by
    intro j u r h1 h2
    rw [lis] at h2
    rw [hf] at h1
    cases j with
    | zero => simp at h1 h2; subst h1 h2; exact okWide_bool_mk ht _
    | succ j => simp at h2
  have hin : ∀ p, p ∈ ([] : List MemPlace) ++ ps ++ [] ↔ p ∈ ps := by simp
  obtain ⟨w1, w2, w3, w4, w5, fro, nod⟩ := hW
  have hW2 : DataW.Whole enc P f.params.toList s.vars apart W args.toList ds [] ps := ⟨w1, w2, w3, w4, w5, fro, nod⟩
  refine ⟨ds, [], ps, [], ps, [], hW2, res _ _ _, arg _ (fun p hp => by simpa using old p hp), var _, World.keptBut_mono (fun p hp => ⟨hp, Or.inr (Or.inl hp)⟩) (hb.frame (· ∈ ps)), fun _ => ⟨ok, _, _, ([] ++ ps) ++ [], ⟨[] ++ ps, [], trodAll_append (arg _ (fun _ _ => rfl)) (res _ _ _), var _, rfl, ?_, ?_⟩, ?_⟩⟩
  · intro b off hp
    have hp' := (hin _).1 hp
    rw [hb.frozen (old _ hp')]
    exact fro b off hp'
  · intro ha
    simpa using nod ha
  · intro p hp _
    simpa using hp
end Go.Proofs.YtphmfaddgpjndaaGreat

/- Blocks with bytes of their own (no program in sight). -/
namespace Go.Proofs.YtphmfaddgpjndaaGreat
open Go.ChangeShapes Go.WideShapes Go.RowKit Go.Maps

theorem putB_zero (s : Nat) (c : Int) (hs : s ≤ 56) (hc : 0 ≤ c ∧ c < 256) : putB 0 s c = c * 2 ^ s := by
  have hp : (2 : Int) ^ s ≤ 2 ^ 56 := by
    have := Nat.pow_le_pow_right (show 0 < 2 by decide) hs
    exact_mod_cast this
  have hp0 : (0 : Int) < 2 ^ s := Int.pow_pos (by decide)
  have h1 : 0 ≤ c * 2 ^ s := Int.mul_nonneg hc.1 (Int.le_of_lt hp0)
  have h2 : c * 2 ^ s < 18446744073709551616 := by
    have a1 : c * 2 ^ s ≤ 255 * 2 ^ s := Int.mul_le_mul_of_nonneg_right (by omega) (Int.le_of_lt hp0)
    have a2 : (255 : Int) * 2 ^ s ≤ 255 * 2 ^ 56 := Int.mul_le_mul_of_nonneg_left hp (by decide)
    have a3 : (255 : Int) * 2 ^ 56 < 18446744073709551616 := by decide
    omega
  have hw : IntKind.u64.wrap (c * 2 ^ s) = c * 2 ^ s := by rw [IntKind.wrap_u64]; omega
  have e1 : bits .andNot .u64 0 (IntKind.u64.wrap (255 * 2 ^ s)) = 0 := by
    unfold bits
    simp [IntKind.wrap_u64]
  unfold putB
  rw [e1, hw]
  generalize c * 2 ^ s = z at h1 h2
  unfold bits
  have e2 : (BitVec.ofInt IntKind.u64.bits 0 ||| BitVec.ofInt IntKind.u64.bits z).toNat = z.toNat := by
    have : BitVec.ofInt IntKind.u64.bits 0 = 0#IntKind.u64.bits := by simp
    rw [this, BitVec.zero_or, BitVec.toNat_ofInt]
    have e : (((2 ^ IntKind.u64.bits : Nat)) : Int) = 18446744073709551616 := by decide
    rw [e]
    omega
  show IntKind.u64.wrap (((BitVec.ofInt IntKind.u64.bits 0 ||| BitVec.ofInt IntKind.u64.bits z).toNat : Nat) : Int) = z
  rw [e2, IntKind.wrap_u64]
  omega
/-- a byte of a word that bears it alone -/
theorem byte_same (s : Nat) (c : Int) (hc : 0 ≤ c ∧ c < 256) : c * 2 ^ s / 2 ^ s % 256 = c := by
  have hp0 : (2 : Int) ^ s ≠ 0 := by
    have : (0 : Int) < 2 ^ s := Int.pow_pos (by decide)
    omega
  rw [Int.mul_ediv_cancel _ hp0]
  omega
/-- the bytes that each block bears: the last of n bytes, alone -/
structure Fill (B : Bs) (W : Nat → Int) (n need i : Nat) (a : Nat → Nat) : Prop where
  us : ∀ x s, Used B x s → ∃ j, j < i ∧ x = a j
  bl : ∀ j, j < i → ∃ s, Used B (a j) s ∧ need ≤ s
  ne : ∀ j1 j2, j1 < j2 → j2 < i → a j1 ≠ a j2
  wd : ∀ j, j < i → ∀ x, x ≤ (n - 1) / 8 → W (a j + 1 + x) = if x = (n - 1) / 8 then ((j + 1 : Nat) : Int) * 2 ^ ((n - 1) % 8 * 8) else 0
theorem Fill.congr {B : Bs} {N : Nat} {W W' : Nat → Int} {n need i : Nat} {a : Nat → Nat} (h : Fill B W n need i a) (hB : B.Ok N) (hn : need = (n + 7) / 8 + 1) (h1 : 1 ≤ n) (e : ∀ t, t < N → W' t = W t) : Fill B W' n need i a := by
  refine ⟨h.us, h.bl, h.ne, fun j hj x hx => ?_⟩
  obtain ⟨s, ⟨k, hk, _, e1, e2⟩, hs⟩ := h.bl j hj
  have hle := hB.le hk
  rw [e _ (by omega)]
  exact h.wd j hj x hx
theorem used_le {B : Bs} {N x s : Nat} (hB : B.Ok N) (h : Used B x s) : x + s ≤ N ∧ 2 ≤ s := by
  obtain ⟨k, hk, _, rfl, rfl⟩ := h
  exact ⟨hB.le hk, hB.two k hk⟩
/-- two blocks lie apart -/
theorem blocks_apart {B : Bs} {N i j : Nat} (hB : B.Ok N) (hi : i < B.n) (hj : j < B.n) (hne : i ≠ j) : B.at i + B.sz i ≤ B.at j ∨ B.at j + B.sz j ≤ B.at i := by
  rcases Nat.lt_or_ge i j with c | c
  · left
    have := B.at_mono (show i + 1 ≤ j by omega)
    rwa [B.at_succ] at this
  · right
    have := B.at_mono (show j + 1 ≤ i by omega)
    rwa [B.at_succ] at this
/-- one block more, written -/
theorem Fill.step {B : Bs} {N : Nat} {W : Nat → Int} {n need i k : Nat} {a : Nat → Nat} (h : Fill B W n need i a) (hB : B.Ok N) (hn : 8 ≤ n ∧ n ≤ 448) (hneed : need = (n + 7) / 8 + 1) (hi : i < 200) (hk : k < B.n) (hu : B.us k = false) (hs : need ≤ B.sz k) :
    Fill (B.carve k (takesN (B.sz k) need)) (wroteW (carW B W k need) ((B.at k + 1) * 8 + (n - 1)) 1 (fun _ => ((i + 1 : Nat) : Int))) n need (i + 1) (updF a i (B.at k)) := by
  have h2 : 2 ≤ need ∧ need ≤ B.sz k := by omega
  have ht := takes_two h2
  have hidx : ((B.at k + 1) * 8 + (n - 1)) / 8 = B.at k + 1 + (n - 1) / 8 := by omega
  have hmod : ((B.at k + 1) * 8 + (n - 1)) % 8 = (n - 1) % 8 := by omega
  have hwr : ∀ q, wroteW (carW B W k need) ((B.at k + 1) * 8 + (n - 1)) 1 (fun _ => ((i + 1 : Nat) : Int)) q = if q = B.at k + 1 + (n - 1) / 8 then ((i + 1 : Nat) : Int) * 2 ^ ((n - 1) % 8 * 8) else carW B W k need q := by
    intro q
    rw [wroteW_eq]
    show updF (carW B W k need) (((B.at k + 1) * 8 + (n - 1) + 0) / 8) (putB (carW B W k need (((B.at k + 1) * 8 + (n - 1) + 0) / 8)) (((B.at k + 1) * 8 + (n - 1) + 0) % 8 * 8) ((i + 1 : Nat) : Int)) q = _
    rw [Nat.add_zero, hidx, hmod]
    by_cases e : q = B.at k + 1 + (n - 1) / 8
    · subst e
      rw [updF_same, if_pos rfl]
      have h0 := carW_in (b := B) (k := k) W h2 (x := 1 + (n - 1) / 8) (by omega)
      rw [if_neg (by omega)] at h0
      rw [show B.at k + 1 + (n - 1) / 8 = B.at k + (1 + (n - 1) / 8) by omega, h0, putB_zero _ _ (by omega) (by omega)]
    · rw [updF_ne _ _ _ e, if_neg e]
  refine ⟨fun x s hx => ?_, fun j hj => ?_, fun j1 j2 h1 h2 => ?_, fun j hj x hx => ?_⟩
  · rcases (used_carve hB hk hu ht.2.2.1 x s).1 hx with h3 | ⟨rfl, _⟩
    · obtain ⟨j, hj, rfl⟩ := h.us x s h3
      exact ⟨j, by omega, by rw [updF_ne _ _ _ (by omega)]⟩
    · exact ⟨i, by omega, by rw [updF_same]⟩
  · by_cases e : j = i
    · subst e
      rw [updF_same]
      exact ⟨_, (used_carve hB hk hu ht.2.2.1 _ _).2 (Or.inr ⟨rfl, rfl⟩), ht.2.2.2⟩
    · rw [updF_ne _ _ _ e]
      obtain ⟨s, hs1, hs2⟩ := h.bl j (by omega)
      exact ⟨s, (used_carve hB hk hu ht.2.2.1 _ _).2 (Or.inl hs1), hs2⟩
  · rw [updF_ne _ _ _ (by omega)]
    by_cases e : j2 = i
    · subst e
      rw [updF_same]
      intro e2
      obtain ⟨s, ⟨x, hx, hux, hax, _⟩, _⟩ := h.bl j1 h1
      have := at_inj hB hx hk (hax.trans e2)
      subst this
      rw [hu] at hux; cases hux
    · rw [updF_ne _ _ _ e]; exact h.ne j1 j2 h1 (by omega)
  · by_cases e : j = i
    · subst e
      rw [updF_same, hwr]
      by_cases e2 : x = (n - 1) / 8
      · rw [if_pos (by omega), if_pos e2]
      · rw [if_neg (by omega), if_neg e2, show B.at k + 1 + x = B.at k + (1 + x) by omega, carW_in W h2 (by omega), if_neg (by omega)]
    · rw [updF_ne _ _ _ e, hwr]
      obtain ⟨s, ⟨y, hy, huy, hay, hsy⟩, hs2⟩ := h.bl j (by omega)
      have hap := blocks_apart hB hy hk (fun e3 => by rw [e3, hu] at huy; cases huy)
      rw [if_neg (by omega), carW_out W h2 (by omega)]
      exact h.wd j (by omega) x hx
/-- what is read of a block -/
theorem Fill.bytes {B : Bs} {W : Nat → Int} {n need i : Nat} {a : Nat → Nat} (h : Fill B W n need i a) (hn : 8 ≤ n) (hi : i ≤ 200) {j : Nat} (hj : j < i) : byteW W ((a j + 1) * 8 + (n - 1)) = ((j + 1 : Nat) : Int) ∧ byteW W ((a j + 1) * 8) = 0 := by
  constructor
  · unfold byteW
    rw [show ((a j + 1) * 8 + (n - 1)) / 8 = a j + 1 + (n - 1) / 8 by omega, show ((a j + 1) * 8 + (n - 1)) % 8 = (n - 1) % 8 by omega, h.wd j hj _ (Nat.le_refl _), if_pos rfl]
    exact byte_same _ _ (by omega)
  · unfold byteW
    have h0 := h.wd j hj 0 (by omega)
    rw [Nat.add_zero] at h0
    rw [show ((a j + 1) * 8) / 8 = a j + 1 by omega, show ((a j + 1) * 8) % 8 = 0 by omega, h0]
    by_cases e : 0 = (n - 1) / 8
    · rw [if_pos e]
      have : (n - 1) % 8 = 7 := by omega
      rw [this]
      omega
    · rw [if_neg e]; simp
end Go.Proofs.YtphmfaddgpjndaaGreat

/- TopFills: helpers of its walk. -/
namespace Go.Proofs.YtphmfaddgpjndaaGreat
open Go.ChangeShapes Go.WideShapes Go.RowKit Go.Maps

theorem own_kept {L : List Nat} {w w' : World} {base size n : Nat} {e : TypeId} {v : Value} {xs : List Value} (h : w.ownsRow base e size v n xs) (k : Kept L w w') (hL : ∀ x ∈ L, x < base) : w'.ownsRow base e size v n xs := by
  refine ⟨h.1, ?_⟩
  rcases h.2 with h2 | ⟨g, cap, cur, hv, hb, hg, rest⟩
  · exact .inl h2
  · exact .inr ⟨g, cap, cur, hv, hb, k.keep hg (fun hx => by have := hL g hx; omega), rest⟩
theorem Kept.grown {L : List Nat} {w0 w w' : World} {row : Option Nat} (h : Kept L w0 w) (hg : w.grownBy w' row) (hr : ∀ k, row = some k → w0.heap.size ≤ k) : Kept L w0 w' :=
  ⟨hg.os.trans h.os, hg.tape.trans h.tape, hg.output.trans h.output, Nat.le_trans h.size hg.size, fun n hn hL => (hg.block n (Nat.lt_of_lt_of_le hn h.size) (fun e => by have := hr n e.symm; omega)).trans (h.block n hn hL)⟩
theorem kept_grown {w w' : World} {row : Option Nat} (hg : w.grownBy w' row) : Kept row.toList w w' :=
  ⟨hg.os, hg.tape, hg.output, hg.size, fun n hn hL => hg.block n hn (fun e => hL (by rw [← e]; simp))⟩
theorem pigeon : ∀ (n : Nat) (f : Nat → Nat) (i : Nat), (∀ j, j < i → f j < n) → (∀ j1 j2, j1 < j2 → j2 < i → f j1 ≠ f j2) → i ≤ n
  | 0, f, i, h, _ => by
    rcases Nat.eq_zero_or_pos i with e | e
    · omega
    · have := h 0 e; omega
  | n + 1, f, i, h, hd => by
    by_cases hx : ∃ j, j < i ∧ f j = n
    · obtain ⟨j0, hj0, e0⟩ := hx
      have := pigeon n (fun j => if j = j0 then f (i - 1) else f j) (i - 1) (fun j hj => by
        show (if j = j0 then f (i - 1) else f j) < n
        by_cases e : j = j0
        · rw [if_pos e]
          have h1 := h (i - 1) (by omega)
          have h2 := hd j0 (i - 1) (by omega) (by omega)
          omega
        · rw [if_neg e]
          have h1 := h j (by omega)
          have h2 : f j ≠ n := by
            rcases Nat.lt_trichotomy j j0 with c | c | c
            · have := hd j j0 c hj0; omega
            · exact absurd c e
            · have := hd j0 j c (by omega); omega
          omega) (fun j1 j2 h1 h2 => by
        show (if j1 = j0 then f (i - 1) else f j1) ≠ (if j2 = j0 then f (i - 1) else f j2)
        by_cases e1 : j1 = j0
        · rw [if_pos e1, if_neg (by omega)]
          exact (hd j2 (i - 1) (by omega) (by omega)).symm
        · rw [if_neg e1]
          by_cases e2 : j2 = j0
          · rw [if_pos e2]; exact hd j1 (i - 1) (by omega) (by omega)
          · rw [if_neg e2]; exact hd j1 j2 h1 (by omega))
      omega
    · have := pigeon n f i (fun j hj => by
        have h1 := h j hj
        have h2 : f j ≠ n := fun e => hx ⟨j, hj, e⟩
        omega) hd
      omega
theorem Fill.count {B : Bs} {N : Nat} {W : Nat → Int} {n need i : Nat} {a : Nat → Nat} (h : Fill B W n need i a) (hB : B.Ok N) : 2 * i ≤ N := by
  have hbig := hB.big
  have h1 : i ≤ N / 2 := pigeon (N / 2) (fun j => a j / 2) i (fun j hj => by
    obtain ⟨s, hs, _⟩ := h.bl j hj
    have := used_le hB hs
    show a j / 2 < N / 2
    omega) (fun j1 j2 h1 h2 => by
    obtain ⟨s1, ⟨x1, hx1, _, e1, f1⟩, _⟩ := h.bl j1 (by omega)
    obtain ⟨s2, ⟨x2, hx2, _, e2, f2⟩, _⟩ := h.bl j2 h2
    have hne := h.ne j1 j2 h1 h2
    have hap := blocks_apart hB hx1 hx2 (fun e => hne (by rw [← e1, ← e2, e]))
    have t1 := hB.two x1 hx1
    have t2 := hB.two x2 hx2
    show a j1 / 2 ≠ a j2 / 2
    omega)
  omega
theorem off_eq {o : Int} {n : Nat} (h : 0 ≤ o ∧ o ≤ 6000 ∧ 8 ≤ n ∧ n ≤ 447) : wrap64 (wrap64 (o + (n : Int)) - 1) = o + ((n - 1 : Nat) : Int) := by
  unfold wrap64; omega
theorem off_nat {o : Int} {x n : Nat} (h : o = ((x + 1) * 8 : Nat)) : (o + ((n - 1 : Nat) : Int)).toNat = (x + 1) * 8 + (n - 1) := by omega
theorem wroteW_congr {W W' : Nat → Int} {off n : Nat} {c : Nat → Int} {q : Nat} (h : W q = W' q) : wroteW W off n c q = wroteW W' off n c q := by
  rw [wroteW_eq, wroteW_eq]
  induction n with
  | zero => exact h
  | succ n ih =>
    show updF (wrote W off c n) ((off + n) / 8) (putB (wrote W off c n ((off + n) / 8)) ((off + n) % 8 * 8) (c n)) q = updF (wrote W' off c n) ((off + n) / 8) (putB (wrote W' off c n ((off + n) / 8)) ((off + n) % 8 * 8) (c n)) q
    by_cases e : q = (off + n) / 8
    · subst e
      rw [updF_same, updF_same, ih]
    · rw [updF_ne _ _ _ e, updF_ne _ _ _ e, ih]
theorem offs_app (a : Nat → Nat) (i x : Nat) : flatF 1 (natF fun j => (a j + 1) * 8) i ++ [.int .i64 (((x + 1) * 8 : Nat) : Int)] = flatF 1 (natF fun j => (updF a i x j + 1) * 8) (i + 1) := by
  rw [flat_app (fun j => (a j + 1) * 8) i ((x + 1) * 8)]
  congr 1
  have : updF (fun j => (a j + 1) * 8) i ((x + 1) * 8) = fun j => (updF a i x j + 1) * 8 := by
    funext j
    unfold updF
    split <;> rfl
  rw [this]
/-- a block taken, or no room -/
theorem Did.alloc' {B : Bs} {W W' : Nat → Int} {r r' : Int} {op : OpN} {err o : Int} {n : Nat} {c : Nat → Int} {B' : Bs} (h : Did B W r op err o W' r' n c B') (hk : op.kind = 1) (h0 : needN op.n ≠ 0) :
    (err = 4 ∧ o = 0 ∧ W' = W ∧ r' = r ∧ B' = B ∧ ∀ j, j < B.n → ¬ fits B (needN op.n) j) ∨
    (err = 0 ∧ r' = r ∧ ∃ k, k < B.n ∧ fits B (needN op.n) k ∧ (∀ j, j < B.n → fits B (needN op.n) j → B.sz k ≤ B.sz j) ∧ o = ((B.at k + 1) * 8 : Nat) ∧ W' = carW B W k (needN op.n) ∧ B' = B.carve k (takesN (B.sz k) (needN op.n))) := by
  cases h
  case allocArg h => exact absurd h h0
  case allocNone _ h => exact Or.inl ⟨rfl, rfl, rfl, rfl, rfl, h⟩
  case allocOk k _ _ h1 h2 h3 => exact Or.inr ⟨rfl, rfl, k, h1, h2, h3, rfl, rfl, rfl⟩
  all_goals (exfalso; omega)
/-- the heap's words, of a tower -/
theorem tw_words {w : World} {TW : Nat} {b : HB} {p : Pl} {now : Nat → Int} {B : Bs} {W : Nat → Int} {r : Int} {X Y : Nat} (h : Tw w TW b p now B W r X Y) :
    Calls Tryz.prog 19 #[.pointer (some ⟨b.HP, 0, none⟩)] w fun e w' => ∃ v', e = .returned (.tuple #[v', .int .i64 0]) ∧ SlOf w' w.heap.size v' 1 (p.L * 8) (wordF W) ∧ Below w.heap.size w w' := by
  obtain ⟨puts, m, kept, cost, h1, h2, h3, rfl, rfl, h6⟩ := h
  exact hwords_any h2.hH h2.hp h2.hG h2.gd h2.r1
theorem tw_heap {w : World} {TW : Nat} {b : HB} {p : Pl} {now : Nat → Int} {B : Bs} {W : Nat → Int} {r : Int} {X Y : Nat} (h : Tw w TW b p now B W r X Y) :
    Calls Tryz.prog 18 #[.pointer (some ⟨TW, 0, none⟩)] w fun e w' => e = .returned (.pointer (some ⟨b.HP, 0, none⟩)) ∧ w = w' := by
  obtain ⟨puts, m, kept, cost, h1, h2, h3, rfl, rfl, h6⟩ := h
  exact theap_any h1
/-- a block that is used is found, and bears as many bytes -/
theorem used_holds {B : Bs} {N : Nat} (hB : B.Ok N) {x s : Nat} (h : Used B x s) {off n : Int} (hn : 0 ≤ n ∧ n ≤ 448) (h1 : (((x + 1) * 8 : Nat) : Int) ≤ off) (h2 : off ≤ (((x + s) * 8 : Nat) : Int) - n) : holdsN B off n = true := by
  obtain ⟨k, hk, hu, rfl, rfl⟩ := h
  exact (holdsN_iff hB).2 ⟨hn, k, hk, hu, h1, h2⟩
theorem used_found {B : Bs} {N : Nat} (hB : B.Ok N) {x s : Nat} (h : Used B x s) : ∃ k, k < B.n ∧ findP ((x + 1) * 8 : Nat) (B.at k, B.sz k, B.us k) = true := by
  obtain ⟨k, hk, hu, rfl, rfl⟩ := h
  exact ⟨k, hk, findP_mk hB hk hu⟩
/-- a size out of a raw number -/
def sz440 (n : Int) : Nat := 8 + (n % 18446744073709551616 % 440).toNat
theorem sz440_eq (n : Int) : wrap64 (8 + wrap64 ((IntKind.u64.wrap n).tmod 440)) = ((sz440 n : Nat) : Int) := by
  rw [mod_u n 440 (by decide)]
  have h2 := Int.emod_nonneg (n % 18446744073709551616) (b := 440) (by decide)
  have h1 := Int.emod_lt_of_pos (n % 18446744073709551616) (b := 440) (by decide)
  unfold sz440 wrap64
  omega
theorem sz440_le (n : Int) : 8 ≤ sz440 n ∧ sz440 n ≤ 447 := by
  have h2 := Int.emod_nonneg (n % 18446744073709551616) (b := 440) (by decide)
  have h1 := Int.emod_lt_of_pos (n % 18446744073709551616) (b := 440) (by decide)
  unfold sz440; omega
theorem need440 {n : Nat} (h : 8 ≤ n ∧ n ≤ 447) : needN n = (n + 7) / 8 + 1 := by unfold needN; rw [if_pos (by omega)]; simp
end Go.Proofs.YtphmfaddgpjndaaGreat

/- A slice of operations as an argument, opened. -/
namespace Go.Proofs.YtphmfaddgpjndaaGreat
open Go.ChangeShapes Go.WideShapes Go.ChangeAt Go.RowKit

def opF (op : Nat → OpN) (D : Nat → Value) : Nat → Nat → Value := fun i t =>
  if t = 0 then .int .i64 (op i).kind else if t = 1 then .int .i64 (op i).off else if t = 2 then .int .i64 (op i).n else if t = 3 then .int .i64 (op i).mask else D i
/-- the operations in a slice -/
structure OpsIn (W : World) (v : Value) (n : Nat) (op : Nat → OpN) (D : Nat → Value) : Prop where
  sl : SlOf W 0 v 5 n (opF op D)
  da : ∀ i, i < n → SlOf W 0 (D i) 1 (op i).k (fun j _ => .int .u8 ((op i).c j))
  by8 : ∀ i, i < n → ∀ j, j < (op i).k → 0 ≤ (op i).c j ∧ (op i).c j < 256
theorem bounds_u8'' {n : Int} (h : (Lit.int .u8 n).wf = true) : 0 ≤ n ∧ n < 256 := by
  simp [Lit.wf, IntKind.min, IntKind.max, IntKind.signed, IntKind.bits] at h
  omega
section
instance : Inhabited OpN := ⟨⟨0, 0, 0, 0, 0, fun _ => 0⟩⟩
variable {H : Type} {enc : TypeId × Value → H}
theorem cells35' : Tryz.prog.cellsOf 35 = 5 := by kernel_rfl
theorem cells5' : Tryz.prog.cellsOf 5 = 1 := by kernel_rfl
theorem cells30' : Tryz.prog.cellsOf 30 = 1 := by kernel_rfl
/-- bytes -/
theorem trod_u8s {W : World} {fuel : Nat} {v : Value} {x : DataW H × List MemPlace} (h : DataW.trod enc Tryz.prog W 0 (fun _ => true) true fuel 30 [v] = some x) :
    ∃ (k : Nat) (c : Nat → Int), SlOf W 0 v 1 k (fun j _ => .int .u8 (c j)) ∧ ∀ j, j < k → 0 ≤ c j ∧ c j < 256 := by
  rcases Go.Deep.open_slice1 Tryz.underlying30 cells5' h with ⟨hcs, _⟩ | ⟨a, len, cap, m, n, V, D, Pl, hcs, _, hlc, hcm, hm, _, hx⟩
  · have hv : v = .slice none 0 0 := by simpa using hcs
    exact ⟨0, fun _ => 0, Or.inl ⟨none, 0, hv, rfl⟩, fun j hj => by omega⟩
  · have hv : v = .slice (some a) len cap := by simpa using hcs
    have hm' : m = cap := by simpa using hm
    subst hm'
    have each : ∀ i, i < m → ∃ z : Int, V i = .int .u8 z ∧ (0 ≤ z ∧ z < 256) := fun i hi => by
      obtain ⟨z, e1, _, hw⟩ := DataW.trod_int Tryz.underlying5 (hx i hi).2
      exact ⟨z, by simpa using e1, bounds_u8'' hw⟩
    obtain ⟨c, hc⟩ := Go.Deep.choose_lt each
    refine ⟨len, c, ?_, fun j hj => (hc j (by omega)).2⟩
    by_cases h0 : len = 0
    · subst h0
      exact Or.inl ⟨_, _, hv, rfl⟩
    · obtain ⟨b, off, spot⟩ := a
      have hsp : spot = none := by simpa [Addr.add] using World.cell?_spot (hx 0 (by omega)).1
      subst hsp
      refine Or.inr ⟨b, off, m, hv, by omega, hlc, hcm, Nat.zero_le _, fun i hi t ht => ?_⟩
      obtain rfl : t = 0 := by omega
      have h1 := (hx i (by omega)).1
      rw [add_plain, cell?_heap] at h1
      rw [Nat.mul_one, Nat.add_zero, h1, (hc i (by omega)).1]
set_option maxRecDepth 100000 in
theorem open_ops {r : Reach} {b0 : Nat} {W : World} {v : Value} {d : DataW H} {ps : List MemPlace} (hval : Value.okWide Tryz.prog W r b0 38 v) (h : DataW.Trod enc Tryz.prog W 0 (fun _ => true) true 38 v d ps) :
    ∃ (n : Nat) (op : Nat → OpN) (D : Nat → Value), OpsIn W v n op D := by
  obtain ⟨fuel, hf⟩ := h
  obtain ⟨a0, n0, c0, rfl⟩ := okWide_slice Tryz.underlying38 hval
  rcases Go.Deep.open_slice Tryz.underlying38 hf with ⟨hcs, _⟩ | ⟨a, len, cap, m, n, E, Pl, hcs, _, hlc, hcm, hm, _, hx⟩
  · have hv : Value.slice a0 n0 c0 = .slice none 0 0 := by simpa [Value.cells] using hcs
    exact ⟨0, fun _ => ⟨0, 0, 0, 0, 0, fun _ => 0⟩, fun _ => .slice none 0 0, Or.inl ⟨none, 0, hv, rfl⟩, fun i hi => by omega, fun i hi => by omega⟩
  · have hv : Value.slice a0 n0 c0 = .slice (some a) len cap := by simpa [Value.cells] using hcs
    have hm' : m = cap := by simpa using hm
    subst hm'
    rw [cells35'] at hx
    have each : ∀ i, i < m → ∃ q : OpN × Value, (∀ t, t < 5 → W.cell? (a.add (i * 5 + t)) = some (opF (fun _ => q.1) (fun _ => q.2) i t)) ∧ SlOf W 0 q.2 1 q.1.k (fun j _ => .int .u8 (q.1.c j)) ∧ ∀ j, j < q.1.k → 0 ≤ q.1.c j ∧ q.1.c j < 256 := by
      intro i hi
      obtain ⟨cs', h1, h2⟩ := hx i hi
      obtain ⟨_, hlen, hcell⟩ := World.cells?_some h1
      obtain ⟨xs, k, _, _, _, hxl, hfd⟩ := DataW.trod_struct Tryz.underlying35 h2
      have hxl5 : xs.length = 5 := hxl
      match xs, hxl5, cs', hlen with
      | [y0, y1, y2, y3, y4], _, [v0, v1, v2, v3, v4], _ =>
        have g0 : DataW.trod enc Tryz.prog W 0 (fun _ => true) true k 3 [v0] = some y0 := by
          have g := hfd 0 _ rfl
          have g' : DataW.trod enc Tryz.prog W 0 (fun _ => true) true k 3 (([v0, v1, v2, v3, v4].drop 0).take (Tryz.prog.cellsOf 3)) = some y0 := g
          rw [cells3] at g'
          exact g'
        have g1 : DataW.trod enc Tryz.prog W 0 (fun _ => true) true k 3 [v1] = some y1 := by
          have g := hfd 1 _ rfl
          have g' : DataW.trod enc Tryz.prog W 0 (fun _ => true) true k 3 (([v0, v1, v2, v3, v4].drop 1).take (Tryz.prog.cellsOf 3)) = some y1 := g
          rw [cells3] at g'
          exact g'
        have g2 : DataW.trod enc Tryz.prog W 0 (fun _ => true) true k 3 [v2] = some y2 := by
          have g := hfd 2 _ rfl
          have g' : DataW.trod enc Tryz.prog W 0 (fun _ => true) true k 3 (([v0, v1, v2, v3, v4].drop 2).take (Tryz.prog.cellsOf 3)) = some y2 := g
          rw [cells3] at g'
          exact g'
        have g3 : DataW.trod enc Tryz.prog W 0 (fun _ => true) true k 3 [v3] = some y3 := by
          have g := hfd 3 _ rfl
          have g' : DataW.trod enc Tryz.prog W 0 (fun _ => true) true k 3 (([v0, v1, v2, v3, v4].drop 3).take (Tryz.prog.cellsOf 3)) = some y3 := g
          rw [cells3] at g'
          exact g'
        have g4 : DataW.trod enc Tryz.prog W 0 (fun _ => true) true k 30 [v4] = some y4 := by
          have g := hfd 4 _ rfl
          have g' : DataW.trod enc Tryz.prog W 0 (fun _ => true) true k 30 (([v0, v1, v2, v3, v4].drop 4).take (Tryz.prog.cellsOf 30)) = some y4 := g
          rw [cells30'] at g'
          exact g'
        obtain ⟨z0, e0, _, _⟩ := DataW.trod_int Tryz.underlying3 g0
        obtain ⟨z1, e1, _, _⟩ := DataW.trod_int Tryz.underlying3 g1
        obtain ⟨z2, e2, _, _⟩ := DataW.trod_int Tryz.underlying3 g2
        obtain ⟨z3, e3, _, _⟩ := DataW.trod_int Tryz.underlying3 g3
        obtain ⟨k4, c4, s4, b4⟩ := trod_u8s g4
        obtain rfl : v0 = .int .i64 z0 := by simpa using e0
        obtain rfl : v1 = .int .i64 z1 := by simpa using e1
        obtain rfl : v2 = .int .i64 z2 := by simpa using e2
        obtain rfl : v3 = .int .i64 z3 := by simpa using e3
        refine ⟨(⟨z0, z1, z2, z3, k4, c4⟩, v4), fun t ht => ?_, s4, b4⟩
        have ht5 := hcell t ht
        rw [Go.Deep.add_add] at ht5
        rw [ht5]
        have : t = 0 ∨ t = 1 ∨ t = 2 ∨ t = 3 ∨ t = 4 := by omega
        rcases this with rfl | rfl | rfl | rfl | rfl <;> rfl
    obtain ⟨q, hq⟩ := Go.Deep.choose_lt each
    refine ⟨len, fun i => (q i).1, fun i => (q i).2, ?_, fun i hi => (hq i (by omega)).2.1, fun i hi => (hq i (by omega)).2.2⟩
    by_cases h0 : len = 0
    · subst h0
      exact Or.inl ⟨_, _, hv, rfl⟩
    · obtain ⟨b, off, spot⟩ := a
      have hsp : spot = none := by simpa [Addr.add] using World.cell?_spot ((hq 0 (by omega)).1 0 (by decide))
      subst hsp
      refine Or.inr ⟨b, off, m, hv, by omega, hlc, hcm, Nat.zero_le _, fun i hi t ht => ?_⟩
      have h1 := (hq i (by omega)).1 t ht
      rw [add_plain, cell?_heap] at h1
      rw [Nat.add_assoc, h1]
      rfl
end
theorem OpsIn.below {W W' : World} {v : Value} {n : Nat} {op : Nat → OpN} {D : Nat → Value} (h : OpsIn W v n op D) (hb : Below W.heap.size W W') : OpsIn W' v n op D :=
  ⟨h.sl.below hb, fun i hi => (h.da i hi).below hb, h.by8⟩
end Go.Proofs.YtphmfaddgpjndaaGreat

/- How heavy a list of operations is; two rows of numbers alike. -/
namespace Go.Proofs.YtphmfaddgpjndaaGreat
open Go.ChangeShapes Go.WideShapes Go.RowKit Go.Maps

theorem rowAt_cells {o : Option Obj} {off m : Nat} {vs : Array Value} (hm : vs.size = m) (h0 : 0 < m) (h : ∀ t, t < m → cellAt o (off + t) = nth vs t) : rowAt o off m = some vs := by
  subst hm
  cases o with
  | none =>
    have := h 0 h0
    rw [nth, Array.getElem?_eq_getElem h0] at this
    cases this
  | some o =>
    cases o with
    | cells c t f =>
      have hle : off + vs.size ≤ c.size := by
        have h1 := h (vs.size - 1) (by omega)
        rw [nth, Array.getElem?_eq_getElem (by omega), cellAt_some] at h1
        have := nth_lt h1
        omega
      rw [rowAt_some _ _ _ _ _ hle]
      congr 1
      apply Array.ext_getElem?
      intro j
      by_cases hj : j < vs.size
      · have h1 := h j hj
        rw [cellAt_some] at h1
        unfold nth at h1
        rw [Array.getElem?_extract, if_pos (by omega)]
        exact h1
      · rw [Array.getElem?_eq_none (by simp; omega), Array.getElem?_eq_none (by omega)]
    | _ =>
      have := h 0 h0
      rw [nth, Array.getElem?_eq_getElem h0] at this
      cases this
theorem Below.drawn' {b : Nat} {w w' : World} (h : Below b w w') (k : Nat) : Below b w (w'.drewN k) := ⟨h.os, h.tape, h.output, h.size, h.block⟩
/-- an operation's row and cells -/
theorem OpsIn.row {W : World} {v : Value} {n : Nat} {op : Nat → OpN} {D : Nat → Value} (h : OpsIn W v n op D) (h0 : 0 < n) : ∃ g off cap, v = .slice (some ⟨g, off, none⟩) n cap ∧ n ≤ cap ∧ cap ≤ 9223372036854775807 ∧ g < W.heap.size ∧
    ∀ i, i < n → rowAt (obj W g) (off + i * 5) 5 = some #[.int .i64 (op i).kind, .int .i64 (op i).off, .int .i64 (op i).n, .int .i64 (op i).mask, D i] := by
  obtain ⟨g, off, cap, e, h1, h2, h3, h5⟩ := h.sl.cells h0
  have hl := lt_of_cell (h5 0 h0 0 (by decide))
  refine ⟨g, off, cap, e, h1, h2, hl, fun i hi => ?_⟩
  refine rowAt_cells rfl (by decide) (fun t ht => ?_)
  rw [h5 i hi t ht]
  have : t = 0 ∨ t = 1 ∨ t = 2 ∨ t = 3 ∨ t = 4 := by omega
  rcases this with rfl | rfl | rfl | rfl | rfl <;> rfl
set_option maxRecDepth 100000 in
set_option maxHeartbeats 6400000 in
theorem heavy_any {w : World} {v : Value} {n : Nat} {op : Nat → OpN} {D : Nat → Value} (h : OpsIn w v n op D) : Calls Tryz.prog 11 #[v, .slice none 0 0] w fun e w' => ∃ z : Int, e = .returned (.int .i64 z) ∧ Below w.heap.size w w' ∧ (0 < z ∨ z = 0 ∧ n ≤ 80 ∧ ∀ i, i < n → (op i).k ≤ 500) := by
  have HO := Lib.hid h
  obtain ⟨ao, cap, rfl⟩ := h.sl.form
  clear h
  go_enter Tryz.func11, Tryz.ntmps11
  go_wp2_with fail
  go_loopw [12] (fun ix wr => ∃ i : Nat, i ≤ n ∧ i ≤ 80 ∧ ix = .int .i64 i ∧ (∀ j, j < i → (op j).k ≤ 500) ∧ Below w.heap.size w wr) (fun ix _ => n - (intOf ix).toNat)
  case atStart => exact ⟨0, Nat.zero_le _, Nat.zero_le _, rfl, fun j hj => by omega, Below.refl _ _⟩
  case round =>
    obtain ⟨i, hi, hi80, rfl, hks, hb⟩ := hrel
    have HK := Lib.hid hks
    have HB := Lib.hid hb
    by_cases hlt : i < n
    · have hltz : (i : Int) < (n : Int) := by omega
      have i0' : (0 : Int) ≤ (i : Int) := Int.natCast_nonneg i
      have wi : IntKind.i64.wrap ((i : Int) + 1) = (i : Int) + 1 := by rw [IntKind.wrap_i64]; omega
      obtain ⟨g, off, cap', e, _, _, hg, hrow⟩ := HO.out.row (by omega)
      obtain ⟨rfl, rfl⟩ : ao = some ⟨g, off, none⟩ ∧ cap = cap' := by simpa using e
      have hr := hrow i hlt
      rw [← obj_below hb hg] at hr
      obtain ⟨aod, capd, hd⟩ := (HO.out.da i hlt).form
      rw [hd] at hr
      have hgw : g < wr.heap.size := by have := hb.size; omega
      have HI := Lib.hid (And.intro hlt hi80)
      clear hi hlt e hrow hks hb hd hi80
      go_wp2_with fail
      all_goals first
        | (go_ret; exact ⟨_, rfl, HB.out.alloc HB.out.size _, Or.inl (by omega)⟩)
        | (have hi := HI.out
           refine ⟨⟨i + 1, hi.1, by omega, by simp, fun j hj => ?_, HB.out.alloc HB.out.size _⟩, by simp only [intOf]; omega⟩
           by_cases e : j = i
           · subst e; omega
           · exact HK.out j (by omega))
    · obtain rfl : i = n := by omega
      have hltz : ¬ (i : Int) < (i : Int) := by omega
      have HI := Lib.hid hi80
      clear hi hlt hks hb hi80
      go_wp2_with fail
      go_ret
      exact ⟨_, rfl, HB.out, Or.inr ⟨rfl, HI.out, HK.out⟩⟩
set_option maxRecDepth 100000 in
set_option maxHeartbeats 6400000 in
/-- two rows of numbers that are alike -/
theorem ints_alike {w : World} {va vb : Value} {n : Nat} {f : Nat → Int} (ha : SlOf w 0 va 1 n (intF f)) (hb : SlOf w 0 vb 1 n (intF f)) (h0 : 0 < n) : Calls Tryz.prog 24 #[va, vb] w fun e w' => e = .returned (.bool true) ∧ Below w.heap.size w w' := by
  obtain ⟨ga, offa, capa, rfl, _, _, _, hca⟩ := ha.cells h0
  obtain ⟨gb, offb, capb, rfl, _, _, _, hcb⟩ := hb.cells h0
  have HA := Lib.hid hca
  have HB := Lib.hid hcb
  clear ha hb hca hcb
  go_enter Tryz.func24, Tryz.ntmps24
  go_wp2_with fail
  go_loopw [13] (fun ix wr => ∃ i : Nat, i ≤ n ∧ ix = .int .i64 i ∧ Below w.heap.size w wr) (fun ix _ => n - (intOf ix).toNat)
  case atStart => exact ⟨0, Nat.zero_le _, rfl, Below.refl _ _⟩
  case round =>
    obtain ⟨i, hi, rfl, hbw⟩ := hrel
    have HBW := Lib.hid hbw
    by_cases hlt : i < n
    · have hltz : (i : Int) < (n : Int) := by omega
      have i0' : (0 : Int) ≤ (i : Int) := Int.natCast_nonneg i
      have wi : IntKind.i64.wrap ((i : Int) + 1) = (i : Int) + 1 := by rw [IntKind.wrap_i64]; omega
      have h1 := HA.out i hlt 0 (by decide)
      have h2 := HB.out i hlt 0 (by decide)
      rw [Nat.mul_one, Nat.add_zero] at h1 h2
      rw [← obj_below hbw (lt_of_cell h1)] at h1
      rw [← obj_below hbw (lt_of_cell h2)] at h2
      replace h1 : cellAt (obj wr ga) (offa + i) = some (.int .i64 (f i)) := h1
      replace h2 : cellAt (obj wr gb) (offb + i) = some (.int .i64 (f i)) := h2
      have hg1 := lt_of_cell h1
      have hg2 := lt_of_cell h2
      have HI := Lib.hid hlt
      clear hi hlt hbw
      go_wp2_with fail
      go_quiet (fail)
      go_wp2_with fail
      exact ⟨⟨i + 1, HI.out, by simp, Below.drawn' HBW.out _⟩, by have := HI.out; simp only [intOf]; omega⟩
    · obtain rfl : i = n := by omega
      have hltz : ¬ (i : Int) < (i : Int) := by omega
      clear hi hlt hbw
      go_wp2_with fail
      go_ret
      exact ⟨rfl, HBW.out⟩
end Go.Proofs.YtphmfaddgpjndaaGreat
