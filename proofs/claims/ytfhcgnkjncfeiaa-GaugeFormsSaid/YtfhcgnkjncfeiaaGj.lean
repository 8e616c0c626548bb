/- The walk of GaugeWears. -/
import Derived.Test.YtfhcgnkjncfeiaaGi
namespace Go.Proofs.Ytfhcgnkjncfeiaa
open Go.ChangeShapes Go.WideShapes Go.RowKit Fl

theorem wrap64_nat {p : Nat} (h : p ≤ 1000000) : wrap64 (p : Int) = p := by unfold wrap64; omega
/-- a row of n whole numbers lies in a block -/
def RowIn (w : World) (g n : Nat) (f : Nat → Int) : Prop := ∃ c : Array Value, obj w g = some (.cells c 3 (0, 0)) ∧ ∀ j, j < n → nth c j = some (.int .i64 (f j))
def updI (f : Nat → Int) (p : Nat) (a : Int) : Nat → Int := fun j => if j = p then a else f j
theorem RowIn.set {w : World} {g n : Nat} {f : Nat → Int} (h : RowIn w g n f) (p : Nat) (a : Int) (hp : p < n) : RowIn (w.setCell ⟨g, p, none⟩ (.int .i64 a)) g n (updI f p a) := by
  obtain ⟨c, h1, h2⟩ := h
  refine ⟨c.setIfInBounds p (.int .i64 a), by rw [obj_setCell_eq, h1]; rfl, fun j hj => ?_⟩
  unfold updI
  have hs : p < c.size := by
    have := h2 p hp
    unfold nth at this
    exact (Array.getElem?_eq_some_iff.1 this).1
  rw [nth_set hs]
  by_cases hjp : j = p
  · rw [if_pos hjp, if_pos hjp]
  · rw [if_neg hjp, if_neg hjp]; exact h2 j hj
theorem RowIn.same {w w' : World} {g n : Nat} {f : Nat → Int} (h : RowIn w g n f) (e : obj w' g = obj w g) : RowIn w' g n f := by
  obtain ⟨c, h1, h2⟩ := h
  exact ⟨c, e.trans h1, h2⟩
theorem RowIn.cell {w : World} {g n : Nat} {f : Nat → Int} (h : RowIn w g n f) (j : Nat) (hj : j < n) : cellAt (obj w g) j = some (.int .i64 (f j)) ∧ iceAt (obj w g) j = false := by
  obtain ⟨c, h1, h2⟩ := h
  rw [h1]; exact ⟨h2 j hj, iceAt_some ..⟩
theorem RowIn.slAt {w : World} {g n : Nat} {f : Nat → Int} (h : RowIn w g n f) (hn : 0 < n) (h2 : n ≤ 9223372036854775807) : SlAt w (.slice (some ⟨g, 0, none⟩) n n) n f :=
  Or.inr ⟨g, 0, n, rfl, hn, Nat.le_refl _, h2, fun j hj => by rw [Nat.zero_add]; exact (h.cell j hj).1⟩
theorem make_row (n : Nat) (w : World) (hn : n ≤ 1000000) : ∃ w', (Instr.makeSlice 22 (.int .i64 (n : Int)) (.int .i64 (n : Int))).run Try.prog w = .ok (.slice (some ⟨w.heap.size, 0, none⟩) n n) w' ∧
    RowIn w' w.heap.size n (fun _ => 0) ∧ Below w.heap.size w w' := by
  obtain ⟨i0, hi0, hz0, hz1, hz2⟩ := info_parts info3
  obtain ⟨w', h1, h2, h3⟩ := run_make_full (P := Try.prog) w w.heap.size 22 3 i0 _ 1 Try.underlying22 hi0 hz0 hz1 .i64 .i64 n (by rw [hz2]; omega) (by unfold maxLen; omega) (Nat.le_refl _)
  refine ⟨w', h1, ?_, (Below.refl _ _).grown h3 (Nat.le_refl _) (fun _ h => by cases h)⟩
  rcases h2.2 with ⟨h0, _⟩ | ⟨g, cap, cur, hv, _, hg, _, _, hsz, ht⟩
  · cases h0
  · obtain ⟨rfl, rfl⟩ : w.heap.size = g ∧ n = cap := by simpa using hv
    refine ⟨cur, hg, fun j hj => ?_⟩
    have e : (Value.int .i64 0).cells = #[.int .i64 0] := rfl
    have h4 : (cur.toList.take (n * 1))[j]? = (List.replicate (n * 1) (Value.int .i64 0))[j]? := by rw [ht, e, toList_madeCells_one]
    rw [List.getElem?_take, if_pos (by omega), List.getElem?_replicate, if_pos (by omega)] at h4
    unfold nth
    rw [← Array.getElem?_toList, h4]
theorem Mem.far {w : World} {Mb Cb n : Nat} {wear lim : Nat → Int} {writes : Int} (h : Mem w Mb Cb n wear lim writes) (R p : Nat) (v : Value) (h1 : R ≠ Mb) (h2 : R ≠ Cb) : Mem (w.setCell ⟨R, p, none⟩ v) Mb Cb n wear lim writes :=
  ⟨(obj_setCell_ne w _ _ Mb (Ne.symm h1)).trans h.hM, h.hL.same (obj_setCell_ne w _ _ Cb (Ne.symm h2)), h.ne⟩
/-- a memory as it is written, line by line -/
structure PutsAt (w : World) (base Mb Cb n i : Nat) (wear : Nat → Int) (writes : Int) : Prop where
  hm : Mem w Mb Cb n wear (fun _ => -1) writes
  b1 : base ≤ Mb
  b2 : base ≤ Cb
  hw : 0 ≤ writes ∧ writes ≤ i
  hr : ∀ j, j < n → 0 ≤ wear j ∧ wear j ≤ i
theorem puts_put {w : World} {base Mb Cb n i : Nat} {wear : Nat → Int} {writes : Int} (h : PutsAt w base Mb Cb n i wear writes) (hi : i ≤ 1000000) (hs : base ≤ w.heap.size) (p : Nat) (hp : p < n) (l : List Int) (hl : l.length = 8) :
    Calls Try.prog 48 #[.pointer (some ⟨Mb, 0, none⟩), .int .i64 p, .agg (cs l)] w fun e w' => e = .returned (.int .i64 0) ∧ PutsAt w' base Mb Cb n (i + 1) (updI wear p (wear p + 1)) (writes + 1) ∧ Below base w w' ∧ (∀ b, b < w.heap.size → b ≠ Mb → b ≠ Cb → obj w' b = obj w b) := by
  have h1 := h.hw
  have h2 := h.hr p hp
  have K := put_in h.hm p hp (by decide) l hl (by rw [IntKind.wrap_i64]; omega) (by rw [IntKind.wrap_i64]; omega) h.b1 h.b2 hs
  refine K.mono ?_
  rintro e w' ⟨rfl, hm, hb, hf⟩
  refine ⟨rfl, ⟨hm, h.b1, h.b2, by omega, fun j hj => ?_⟩, hb, hf⟩
  have := h.hr j hj
  unfold updI
  split <;> omega
theorem puts_new (n : Nat) (w : World) (h : 1 ≤ n ∧ n ≤ 200) : Calls Try.prog 47 #[.int .i64 n, .slice none 0 0] w fun e w' => ∃ Mb Cb, e = .returned (.pointer (some ⟨Mb, 0, none⟩)) ∧ PutsAt w' w.heap.size Mb Cb n 0 (fun _ => 0) 0 ∧ Below w.heap.size w w' := by
  refine (mnew_any n w h).mono ?_
  rintro e w' ⟨Mb, Cb, rfl, hm, h1, h2, hb⟩
  exact ⟨Mb, Cb, rfl, ⟨hm, h1, h2, by omega, fun j _ => by omega⟩, hb⟩

set_option maxRecDepth 100000 in
set_option maxHeartbeats 6400000 in
theorem wears_some (a : Int) (v : Value) (m : Nat) (g : Nat → Int) (w : World) (hs : SlAt w v m g) (hm : m ≤ 200) :
    Calls Try.prog 17 #[.int .i64 a, v] w fun e w' => e = .returned (.bool true) ∧ Below w.heap.size w w' := by
  have ha0 : 0 ≤ IntKind.u64.wrap a := by rw [IntKind.wrap_u64]; omega
  obtain ⟨q, hq⟩ : ∃ q, (IntKind.u64.wrap a).tmod 60 = q := ⟨_, rfl⟩
  have hqb : 0 ≤ q ∧ q < 60 := by rw [← hq]; exact ⟨Int.tmod_nonneg _ ha0, Int.tmod_lt_of_pos _ (by decide)⟩
  obtain ⟨N, hN⟩ : ∃ N : Nat, 1 + q = (N : Int) := ⟨(1 + q).toNat, by omega⟩
  have hNb : 1 ≤ N ∧ N ≤ 60 := by omega
  have w1 : wrap64 q = q := by unfold wrap64; omega
  have w2 : wrap64 (N : Int) = N := by unfold wrap64; omega
  have w3 : IntKind.i64.wrap (1 + q) = N := by rw [hN, IntKind.wrap_i64]; omega
  have w4 : IntKind.u64.wrap (N : Int) = N := by rw [IntKind.wrap_u64]; omega
  have w5 : IntKind.i64.wrap ((N : Int) + 9) = (N : Int) + 9 := by rw [IntKind.wrap_i64]; omega
  have w6 : IntKind.i64.wrap ((N : Int) + 3) = (N : Int) + 3 := by rw [IntKind.wrap_i64]; omega
  have nz : ¬ (N : Int) = 0 := by omega
  have nz' : ¬ N = 0 := by omega
  have d1 : decide (200 < (m : Int)) = false := decide_eq_false (by omega)
  obtain ⟨ao, cap, rfl⟩ := hs.form
  have HS := Lib.hid hs
  have HM := Lib.hid hm
  have HNb := Lib.hid hNb
  have KN := fun w => Lib.hid (puts_new N w (by omega))
  have MR := fun w => Lib.hid (make_row N w (by omega))
  clear hs hm hNb hqb ha0
  go_enter Try.func17, Try.ntmps17
  go_wp2_with fail
  refine (KN _).out.mono ?_
  rintro _ wa ⟨Mb, Cb, rfl, hp, hb⟩
  obtain ⟨wb, hrun, hrow, hbl⟩ := (MR wa).out
  have hMlt := lt_of_obj hp.hm.hM
  have hClt : Cb < wa.heap.size := by
    obtain ⟨c, h1, _⟩ := hp.hm.hL
    exact lt_of_obj h1
  have HP := Lib.hid (show PutsAt wb w.heap.size Mb Cb N 0 (fun _ => 0) 0 from ⟨hp.hm.below hbl, hp.b1, hp.b2, hp.hw, hp.hr⟩)
  have HR := Lib.hid hrow
  have HB := Lib.hid (hb.trans (hbl.mono hb.size))
  have HNE := Lib.hid (show wa.heap.size ≠ Mb ∧ wa.heap.size ≠ Cb ∧ w.heap.size ≤ wa.heap.size ∧ wa.heap.size < wb.heap.size from ⟨by omega, by omega, hb.size, by obtain ⟨c, h1, _⟩ := hrow; exact lt_of_obj h1⟩)
  clear hp hrow hbl hb hMlt hClt
  go_wp2_with fail
  clear hrun
  go_loopw [25] (fun iv wr => ∃ i : Nat, i ≤ m ∧ iv = .int .i64 i ∧ (∃ wear writes, PutsAt wr w.heap.size Mb Cb N i wear writes ∧ RowIn wr wa.heap.size N wear) ∧ Below w.heap.size w wr ∧ wa.heap.size < wr.heap.size) (fun iv _ => m - (intOf iv).toNat)
  case atStart => exact ⟨0, by omega, rfl, ⟨_, _, HP.out, HR.out⟩, HB.out, HNE.out.2.2.2⟩
  case round =>
    obtain ⟨i, hi, rfl, ⟨wear, writes, hp, hr⟩, hb, hsz⟩ := hrel
    clear HP HR HB
    have HP := Lib.hid hp
    have HR := Lib.hid hr
    have HB := Lib.hid hb
    have HSZ := Lib.hid hsz
    clear hp hr hb hsz
    by_cases hlt : i < m
    · have hltz : (i : Int) < (m : Int) := by omega
      have i0 : (0 : Int) ≤ (i : Int) := by omega
      have wi : IntKind.i64.wrap ((i : Int) + 1) = (i : Int) + 1 := by have := HM.out; rw [IntKind.wrap_i64]; omega
      rcases (HS.out.kept HB.out) with ⟨_, _, _, e⟩ | ⟨b1, o1, c1, e1, _, _, _, hI⟩
      · exfalso; omega
      obtain ⟨rfl, rfl⟩ : ao = some ⟨b1, o1, none⟩ ∧ cap = c1 := by simpa using e1
      have cJ := hI i hlt
      generalize g i = x at cJ
      have hx0 : 0 ≤ IntKind.u64.wrap x := by rw [IntKind.wrap_u64]; omega
      obtain ⟨p, hp⟩ := Int.eq_ofNat_of_zero_le (Int.tmod_nonneg (N : Int) hx0)
      have hplt := Int.tmod_lt_of_pos (IntKind.u64.wrap x) (by have := HNb.out; omega : (0 : Int) < (N : Int))
      rw [hp] at hplt
      have hpN : p < N := Int.ofNat_lt.1 hplt
      clear hplt
      have HPP := Lib.hid hp
      clear hp
      have wp : wrap64 (p : Int) = p := wrap64_nat (Nat.le_trans (Nat.le_of_lt hpN) (Nat.le_trans HNb.out.2 (by decide)))
      have p0 : (0 : Int) ≤ (p : Int) := Int.natCast_nonneg p
      have HPN := Lib.hid hpN
      have HLT := Lib.hid hlt
      have KP := Lib.hid (puts_put HP.out (by have := HM.out; omega) (by have := HNE.out; have := HSZ.out; omega) p hpN [1, 0, 0, 0, 0, 0, 0, 0] rfl)
      have HW := Lib.hid (show 0 ≤ wear p ∧ wear p ≤ i from HP.out.hr p hpN)
      have hp := HPP.out
      clear hI e1 hlt hi hx0 hpN
      go_wp2_with fail
      refine KP.out.mono ?_
      rintro _ w5 ⟨rfl, hp5, hb5, hf5⟩
      clear hp
      have hr5 : RowIn w5 wa.heap.size N wear := HR.out.same (hf5 _ HSZ.out HNE.out.1 HNE.out.2.1)
      obtain ⟨cR, iR⟩ := hr5.cell p HPN.out
      obtain ⟨A, hA⟩ : ∃ A, wear p + 1 = A := ⟨_, rfl⟩
      have wA : IntKind.i64.wrap (wear p + 1) = A := by have := HW.out; have := HM.out; have := HLT.out; rw [hA, IntKind.wrap_i64]; omega
      have hp6 : PutsAt (w5.setCell ⟨wa.heap.size, p, none⟩ (.int .i64 A)) w.heap.size Mb Cb N (i + 1) (updI wear p A) (writes + 1) := by
        rw [hA] at hp5
        exact ⟨hp5.hm.far _ _ _ HNE.out.1 HNE.out.2.1, hp5.b1, hp5.b2, hp5.hw, hp5.hr⟩
      have hr6 := hr5.set p A HPN.out
      have hb6 : Below w.heap.size w (w5.setCell ⟨wa.heap.size, p, none⟩ (.int .i64 A)) := Below.setCell (HB.out.trans hb5) HNE.out.2.2.1 _
      have hsz6 : wa.heap.size < (w5.setCell ⟨wa.heap.size, p, none⟩ (.int .i64 A)).heap.size := by
        obtain ⟨c, h1, _⟩ := hr6
        exact lt_of_obj h1
      have HP6 := Lib.hid hp6
      have HR6 := Lib.hid hr6
      have HB6 := Lib.hid hb6
      have HS6 := Lib.hid hsz6
      clear hp5 hb5 hf5 hr5 hp6 hr6 hb6 hsz6 hA KP
      go_wp2_with fail
      exact ⟨⟨i + 1, HLT.out, by simp, ⟨_, _, HP6.out, HR6.out⟩, HB6.out, HS6.out⟩, by have := HLT.out; simp only [intOf]; omega⟩
    · have : i = m := by omega
      subst this
      have hltz : ¬ (i : Int) < (i : Int) := by omega
      have hNb := HNb.out
      have l1 : cntL 0 N N = N := by unfold cntL; omega
      have l2 : cntL (-9) ((N : Int) + 9) N = N := by unfold cntL; omega
      have l3 : cntL N ((N : Int) + 3) N = 0 := by unfold cntL; omega
      have e1 : (fun j => wear (fromL 0 + j)) = wear := by funext j; rw [show fromL 0 = 0 from rfl, Nat.zero_add]
      have e2 : (fun j => wear (fromL (-9) + j)) = wear := by funext j; rw [show fromL (-9) = 0 from rfl, Nat.zero_add]
      have hw := HR.out.slAt (by omega) (by omega)
      have A1 : Calls Try.prog 52 #[.pointer (some ⟨Mb, 0, none⟩), .int .i64 0, .int .i64 N] wr _ := wears_in HP.out.hm (by omega) 0 N
      rw [l1, e1] at A1
      have A2 := fun w' (hb : Below wr.heap.size wr w') => wears_in (HP.out.hm.below hb) (by omega) (-9) ((N : Int) + 9)
      rw [l2, e2] at A2
      have A3 := fun w' (hb : Below wr.heap.size wr w') => wears_in (HP.out.hm.below hb) (by omega) N ((N : Int) + 3)
      rw [l3] at A3
      have A1 := Lib.hid A1
      have A2 := Lib.hid A2
      have A3 := Lib.hid A3
      have HWS := Lib.hid hw
      clear hNb l1 l2 l3 e1 e2 hw hlt hi
      go_wp2_with fail
      refine A1.out.mono ?_
      rintro _ wc ⟨v1, rfl, hs1, hb1⟩
      have I1 := Lib.hid (ints_same wc v1 _ N wear hs1 (HWS.out.kept hb1) (by have := HNb.out; omega))
      have HB1 := Lib.hid hb1
      clear hs1 hb1
      go_wp2_with fail
      refine I1.out.mono ?_
      rintro _ _ ⟨rfl, k1, rfl⟩
      have HB2 := Lib.hid (below_drawn (n := k1) HB1.out)
      go_wp2_with fail
      refine (A2.out _ HB2.out).mono ?_
      rintro _ wd ⟨v2, rfl, hs2, hb2⟩
      have HB3 := Lib.hid (HB2.out.trans (hb2.mono HB2.out.size))
      have I2 := Lib.hid (ints_same wd v2 _ N wear hs2 (HWS.out.kept HB3.out) (by have := HNb.out; omega))
      clear hs2 hb2
      go_wp2_with fail
      refine I2.out.mono ?_
      rintro _ _ ⟨rfl, k2, rfl⟩
      have HB4 := Lib.hid (below_drawn (n := k2) HB3.out)
      go_wp2_with fail
      refine (A3.out _ HB4.out).mono ?_
      rintro _ we ⟨v3, rfl, hs3, hb3⟩
      obtain ⟨ao3, cap3, rfl⟩ := hs3.form
      have HB5 := Lib.hid (HB.out.trans ((HB4.out.trans (hb3.mono HB4.out.size)).mono HB.out.size))
      clear hs3 hb3
      go_wp2_with fail
      refine (wears_none _ _ _).mono ?_
      rintro _ _ ⟨rfl, rfl⟩
      go_wp2_with fail
      refine (awake22 _).mono ?_
      rintro _ w9 ⟨rfl, hb⟩
      go_wp2
      go_ret
      exact ⟨rfl, HB5.out.trans (hb.mono HB5.out.size)⟩
set_option maxRecDepth 100000 in
set_option maxHeartbeats 3200000 in
theorem gaugeWears_walk (a : Int) (v : Value) (l : List Int) (w : World) (s : IntSlice w v l) (_ : ∀ x ∈ l, (Lit.int .i64 x).wf = true) (_ : (Lit.int .i64 a).wf = true) :
    Calls Try.prog 17 #[.int .i64 a, v] w fun e w' => e = .returned (.bool true) ∧ Below w.heap.size w w' := by
  by_cases h : 200 < l.length
  · obtain ⟨ao, cap, rfl⟩ := s.slAt.form
    obtain ⟨m, hm⟩ : ∃ m, l.length = m := ⟨_, rfl⟩
    rw [hm] at h ⊢
    have d1 : decide (200 < (m : Int)) = true := decide_eq_true (by omega)
    clear h hm s
    go_enter Try.func17, Try.ntmps17
    go_wp2_with fail
    refine (awake22 _).mono ?_
    rintro _ w9 ⟨rfl, hb⟩
    go_wp2
    go_ret
    exact ⟨rfl, hb⟩
  · exact wears_some a v _ _ w s.slAt (by omega)
end Go.Proofs.Ytfhcgnkjncfeiaa
