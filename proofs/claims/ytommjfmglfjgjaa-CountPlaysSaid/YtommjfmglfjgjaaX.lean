/- The walk of CountPlays, where there are pages. -/
import Derived.Test.YtommjfmglfjgjaaV
import Derived.Deep.AppendLies
namespace Go.Proofs.Ytommjfmglfjgjaa
open Go.ChangeShapes Go.WideShapes Go.RowKit

theorem below_drawn {w' w'' : World} {n : Nat} {b : Nat} (h : Below b w' w'') : Below b w' (w''.drewN n) := ⟨h.os, h.tape, h.output, h.size, h.block⟩
/-- two rows that grow side by side -/
theorem two_grow {wr wA wB : World} {base k g1 g2 cap1 : Nat} {s1 s2 : Value} {xs ys : List Value} {o1 o2 : Obj} (H2 : wr.ownsRow base 3 1 s2 k xs) (ap : s1.ownBlock = none ∨ s1.ownBlock ≠ s2.ownBlock)
    (hA : wA.ownsRow base 3 1 (.slice (some ⟨g1, 0, none⟩) (k + 1) cap1) (k + 1) ys) (hgA : (wr.alloc o1).grownBy wA s1.ownBlock) (hatA : s1.ownBlock = some g1 ∨ g1 = wr.heap.size + 1) (hltA : g1 < wA.heap.size)
    (hgB : (wA.alloc o2).grownBy wB s2.ownBlock) (hatB : s2.ownBlock = some g2 ∨ g2 = wA.heap.size + 1) :
    wB.ownsRow base 3 1 (.slice (some ⟨g1, 0, none⟩) (k + 1) cap1) (k + 1) ys ∧ g1 ≠ g2 := by
  have h : s2.ownBlock ≠ some g1 := by
    intro e
    rcases hatA with h | h
    · rcases ap with h2 | h2
      · rw [h] at h2; cases h2
      · exact h2 (h.trans e.symm)
    · have := (H2.lt g1 e).2; omega
  refine ⟨(hA.alloc o2).kept hgB (Or.inr fun e => h e.symm), ?_⟩
  rcases hatB with h2 | h2
  · intro e; subst e; exact h h2
  · omega
theorem two_keep {wr wA : World} {base k : Nat} {s1 s2 : Value} {xs : List Value} {o1 : Obj} (H2 : wr.ownsRow base 3 1 s2 k xs) (ap : s1.ownBlock = none ∨ s1.ownBlock ≠ s2.ownBlock) (hgA : (wr.alloc o1).grownBy wA s1.ownBlock) (o2 : Obj) :
    (wA.alloc o2).ownsRow base 3 1 s2 k xs := by
  refine ((H2.alloc o1).kept hgA ?_).alloc o2
  rcases ap with h | h
  · rw [h]; cases s2.ownBlock <;> simp
  · exact Or.inr (Ne.symm h)
theorem two_below {w wr wA wB : World} {base k : Nat} {s1 s2 : Value} {xs : List Value} {o1 o2 : Obj} (hb : Below base w wr) (hs : base ≤ wr.heap.size) (H1 : wr.ownsRow base 3 1 s1 k xs) (H2 : wr.ownsRow base 3 1 s2 k xs)
    (hgA : (wr.alloc o1).grownBy wA s1.ownBlock) (hgB : (wA.alloc o2).grownBy wB s2.ownBlock) : Below base w wB := by
  have h1 : Below base w wA := (hb.alloc hs o1).grown hgA (by simp; omega) (fun j hj => (H1.lt j hj).1)
  have := hgA.size
  refine (h1.alloc (by simp at this; omega) o2).grown hgB (by simp at this ⊢; omega) (fun j hj => (H2.lt j hj).1)
theorem clampK_bd (x : Int) : 0 ≤ clampK x ∧ clampK x ≤ 1099511627776 := by unfold clampK; omega
theorem clampD_bd (l : List Int) (j : Nat) : 0 ≤ (l.map clampK).getD j 0 ∧ (l.map clampK).getD j 0 ≤ 1099511627776 := by
  rw [List.getD_eq_getElem?_getD, List.getElem?_map]
  cases l[j]? with
  | none => simp
  | some x => simpa using clampK_bd x
theorem clampD_at (l : List Int) (j : Nat) (h : j < l.length) : (l.map clampK).getD j 0 = max 0 (min (l.getD j 0) 1099511627776) := by
  rw [List.getD_eq_getElem?_getD, List.getElem?_map, List.getD_eq_getElem?_getD, List.getElem?_eq_getElem h]
  simp only [Option.map_some, Option.getD_some]
  unfold clampK; omega

set_option maxRecDepth 100000 in
set_option maxHeartbeats 12800000 in
theorem plays_some (B : Nat) (bb1 off1 n cap1 : Nat) (l1 : List Int) (v : Value) (l : List Int) (w : World) (hn : n = l1.length) (h1 : ∀ j, j < n → cellAt (obj w bb1) (off1 + j) = some (.int .i64 (l1.getD j 0)))
    (hn1 : 1 ≤ n ∧ n ≤ 16) (hs : IntSlice w v l) (hl : l.length ≤ 400) (ha : 1 ≤ B ∧ B ≤ 100) :
    Calls Try.prog 7 #[.int .i64 B, .slice (some ⟨bb1, off1, none⟩) n cap1, v] w fun e w' => e = .returned (.bool true) ∧ Below w.heap.size w w' := by
  obtain ⟨ao, m, cap, hv, hm⟩ : ∃ ao n cap, v = .slice ao n cap ∧ n = l.length := by
    rcases hs with ⟨ao, cap, h, rfl⟩ | ⟨b, off, cap, h, _⟩
    · exact ⟨ao, 0, cap, h, rfl⟩
    · exact ⟨_, _, _, h, rfl⟩
  subst hv
  have K := Lib.hid (new_any B l1 bb1 off1 n cap1 w hn hn1.2 (by omega) (by omega) h1)
  have d1 : decide (400 < (m : Int)) = false := decide_eq_false (by omega)
  have d2 : decide (60 < (n : Int)) = false := decide_eq_false (by omega)
  have f1 : decide ((B : Int) ≥ 1) = true := decide_eq_true (by omega)
  have f2 : decide ((B : Int) ≤ 100) = true := decide_eq_true (by omega)
  have f3 : decide ((n : Int) ≤ 16) = true := decide_eq_true (by omega)
  have HS := Lib.hid hs
  have HM := Lib.hid hm
  have HL := Lib.hid hl
  have HN := Lib.hid hn
  have HN1 := Lib.hid hn1
  have HA := Lib.hid ha
  have HC1 := Lib.hid h1
  have hF : ∀ j, j < n → max 0 (min (l1.getD j 0) 1099511627776) = (l1.map clampK).getD j 0 := fun j hj => (clampD_at l1 j (by omega)).symm
  have hFb := clampD_bd l1
  obtain ⟨F, hFe⟩ : ∃ F : Nat → Int, F = fun j => (l1.map clampK).getD j 0 := ⟨_, rfl⟩
  have hF' : ∀ j, j < n → max 0 (min (l1.getD j 0) 1099511627776) = F j := fun j hj => by rw [hFe]; exact hF j hj
  have hFb' : ∀ j, 0 ≤ F j ∧ F j ≤ 1099511627776 := fun j => by rw [hFe]; exact hFb j
  have HF := Lib.hid hF'
  have HFb := Lib.hid hFb'
  have HFe := Lib.hid hFe
  obtain ⟨i0, hi0, hz0, hz1, hz2⟩ := info_parts info3
  clear hs hm hl hn hn1 ha h1 hF hFb hF' hFb' hFe
  go_enter Try.func7, Try.ntmps7
  go_wp2_with fail
  refine K.out.mono ?_
  rintro _ wa ⟨C, rfl, hc, hbl⟩
  obtain ⟨g1, g2, capA, capB, hci0⟩ := hc.countIn (by rw [List.length_map, ← HN.out]; exact HN1.out.1) rfl
  have hci : CountIn wa w.heap.size C g1 g2 B n capA capB F F := by
    have e : (l1.map clampK).length = n := by rw [List.length_map, ← HN.out]
    rw [e, ← HFe.out] at hci0
    exact hci0
  have HCI := Lib.hid hci
  have HB := Lib.hid hbl
  clear hc hbl hci0 hci K
  go_wp2_with fail
  go_loopw [8, 9, 47] (fun s1 s2 i wr => ∃ k : Nat, k ≤ n ∧ i = .int .i64 k ∧ wr.ownsRow wa.heap.size 3 1 s1 k (rowK F k) ∧ wr.ownsRow wa.heap.size 3 1 s2 k (rowK F k) ∧ (s1.ownBlock = none ∨ s1.ownBlock ≠ s2.ownBlock) ∧ Below wa.heap.size wa wr ∧ wa.heap.size ≤ wr.heap.size) (fun _ _ i _ => n - (intOf i).toNat)
  case atStart => exact ⟨0, by omega, rfl, World.ownsRow_nil _ _ _ _, World.ownsRow_nil _ _ _ _, Or.inl rfl, Below.refl _ _, Nat.le_refl _⟩
  case round =>
    obtain ⟨k, hk, rfl, o1, o2, oa, ob, os⟩ := hrel
    have H1 := Lib.hid o1
    have H2 := Lib.hid o2
    have HAp := Lib.hid oa
    have HBr := Lib.hid ob
    have HSz := Lib.hid os
    clear o1 o2 oa ob os
    by_cases hlt : k < n
    · have hltz : (k : Int) < (n : Int) := by omega
      have k0 : (0 : Int) ≤ (k : Int) := by omega
      have cJ := HC1.out k hlt
      have cJ' : cellAt (obj wr bb1) (off1 + k) = some (.int .i64 (l1.getD k 0)) := by
        obtain ⟨o, ho⟩ : ∃ o, obj w bb1 = some o := by
          cases h2 : obj w bb1 with
          | none => rw [h2] at cJ; simp [cellAt] at cJ
          | some o => exact ⟨o, rfl⟩
        rw [keep HBr.out (keep HB.out ho), ← ho]; exact cJ
      have hx := HF.out k hlt
      have wk : IntKind.i64.wrap ((k : Int) + 1) = (k : Int) + 1 := by have := HN1.out; rw [IntKind.wrap_i64]; omega
      generalize l1.getD k 0 = x at cJ' hx
      have HLT := Lib.hid hlt
      clear cJ hlt hk
      go_wp2_with (first
        | (at_builtin; refine wpList_append_lies _ rfl (.tmp 54) (.tmp 56) 34 rfl wa.heap.size 3 i0 _ 1 8 Try.underlying34 hi0 hz0 hz1 hz2 rfl (by decide) _ k _ rfl (H1.out.alloc _) ⟨wr.heap.size, 0, none⟩ 1 1 [.int .i64 (F k)] rfl rfl (cell_one_new _ _ _) (by simp [Value.oneCell']) (by decide) (by have := HN1.out; have := HLT.out; unfold maxLen; omega) (by have := HN1.out; have := HLT.out; omega) (by have := HSz.out; simp; omega) (wr.heap.size + 1) (by simp) ?_; intro gA cA wA hownA hgrowA hatA hltA)
        | (at_builtin; refine wpList_append_lies _ rfl (.tmp 58) (.tmp 60) 34 rfl wa.heap.size 3 i0 _ 1 8 Try.underlying34 hi0 hz0 hz1 hz2 rfl (by decide) _ k _ rfl (two_keep H2.out HAp.out hgrowA _) ⟨wA.heap.size, 0, none⟩ 1 1 [.int .i64 (F k)] rfl rfl (cell_one_new _ _ _) (by simp [Value.oneCell']) (by decide) (by have := HN1.out; have := HLT.out; unfold maxLen; omega) (by have := HN1.out; have := HLT.out; omega) (by have := HSz.out; have := hgrowA.size; simp at this ⊢; omega) (wA.heap.size + 1) (by simp) ?_; intro gB cB wB hownB hgrowB hatB hltB))
      have hg := two_grow H2.out HAp.out hownA hgrowA hatA hltA hgrowB hatB
      have hb := two_below HBr.out HSz.out H1.out H2.out hgrowA hgrowB
      have hz : wa.heap.size ≤ wB.heap.size := by have := HSz.out; have := hgrowA.size; have := hgrowB.size; simp at *; omega

      exact ⟨⟨k + 1, HLT.out, by simp, by rw [rowK_succ]; exact hg.1, by rw [rowK_succ]; exact hownB, Or.inr (by simpa [Value.ownBlock] using hg.2), hb, hz⟩, by have := HLT.out; simp only [intOf]; omega⟩
    · have : k = n := by omega
      subst this
      have hltz : ¬ (k : Int) < (k : Int) := by omega
      obtain ⟨R1, c1, rfl, b1, q1⟩ := rowIn_of H1.out (by have := HN1.out; omega)
      obtain ⟨R2, c2, rfl, b2, q2⟩ := rowIn_of H2.out (by have := HN1.out; omega)
      have hne : R1 ≠ R2 := by
        rcases HAp.out with h | h
        · cases h
        · intro e; subst e; exact h rfl
      have hP : PlayAt wr w.heap.size C g1 g2 capA capB B k 0 R1 R2 F F := by
        have h := HCI.out
        have l0 := lt_of_obj h.hC
        obtain ⟨x1, y1, _⟩ := h.r1
        obtain ⟨x2, y2, _⟩ := h.r2
        have l1 := lt_of_obj y1
        have l2 := lt_of_obj y2
        have hz := HB.out.size
        refine ⟨h.below HBr.out, q1, q2, hne, by omega, by omega, by omega, by omega, by omega, by omega, by omega, by omega, fun j hj => ?_⟩
        have := HFb.out j
        have := HA.out
        omega
      have HP := Lib.hid hP
      have HBW := Lib.hid (HB.out.trans (HBr.out.mono HB.out.size))
      clear hP hne b1 b2 q1 q2 H1 H2 HAp hk hlt HF HFb HFe HCI HBr HSz HC1
      go_wp2_with fail
      go_loopw [65] (fun iv wr2 => ∃ i : Nat, i ≤ m ∧ iv = .int .i64 i ∧ (∃ now kept, PlayAt wr2 w.heap.size C g1 g2 capA capB B k i R1 R2 now kept) ∧ Below w.heap.size w wr2) (fun iv _ => m - (intOf iv).toNat)
      case atStart => exact ⟨0, by omega, rfl, ⟨_, _, HP.out⟩, HBW.out⟩
      case round =>
        obtain ⟨i, hi, rfl, ⟨now, kept, hp⟩, hbw⟩ := hrel
        clear HP HBW
        have HP := Lib.hid hp
        have HBW := Lib.hid hbw
        clear hp hbw
        by_cases hlt : i < m
        · have hltz : (i : Int) < (m : Int) := by omega
          have im : i ≤ 1000 := by have := HL.out; have := HM.out; omega
          have wi : IntKind.i64.wrap ((i : Int) + 1) = (i : Int) + 1 := by rw [IntKind.wrap_i64]; omega
          have HLT := Lib.hid hlt
          have HIM := Lib.hid im
          rcases HS.out with ⟨ao', cap', e, h0⟩ | ⟨bb, off, cap', e, l0, _, _, hcell⟩
          · exfalso; have := HM.out; subst h0; simp at this; omega
          · obtain ⟨rfl, hml, rfl⟩ : ao = some ⟨bb, off, none⟩ ∧ m = l.length ∧ cap = cap' := by simpa using e
            have cJ := hcell i (by omega)
            have cJ' : cellAt (obj wr bb) (off + i) = some (.int .i64 (l.getD i 0)) := by
              obtain ⟨o, ho⟩ : ∃ o, obj w bb = some o := by
                cases h2 : obj w bb with
                | none => rw [h2] at cJ; simp [cellAt] at cJ
                | some o => exact ⟨o, rfl⟩
              rw [keep HBW.out ho, ← ho]; exact cJ
            have j0 : (0 : Int) ≤ (i : Int) := by omega
            generalize l.getD i 0 = x at cJ'
            clear hcell cJ e hml l0 hlt hi im
            by_cases hx : x < 0
            · have hx' : decide (x < 0) = true := decide_eq_true hx
              have N' : Hid (NoPage wr (.pointer (some ⟨C, 0, none⟩)) x) := Lib.hid (has_below C x wr hx)
              clear hx
              go_wp2_with (first | (go_at_call 19; refine (note_no N'.out).mono ?_; rintro _ _ ⟨rfl, rfl⟩) | (go_at_call 20; refine (of_no N'.out).mono ?_; rintro _ _ ⟨rfl, rfl⟩) | (go_at_call 21; refine (lag_no N'.out).mono ?_; rintro _ _ ⟨rfl, rfl⟩))
              exact ⟨⟨i + 1, HLT.out, by simp, ⟨_, _, HP.out.more⟩, HBW.out⟩, by have := HLT.out; simp only [intOf]; omega⟩
            · by_cases hx2 : (k : Int) ≤ x
              · have hx' : decide (x < 0) = false := decide_eq_false hx
                have hx3 : decide (x ≥ (k : Int)) = true := decide_eq_true hx2
                have N' : Hid (NoPage wr (.pointer (some ⟨C, 0, none⟩)) x) := by
                  have h := has_in HP.out.hc x (by omega)
                  rw [decide_eq_false (by omega)] at h
                  exact Lib.hid h
                clear hx hx2
                go_wp2_with (first | (go_at_call 19; refine (note_no N'.out).mono ?_; rintro _ _ ⟨rfl, rfl⟩) | (go_at_call 20; refine (of_no N'.out).mono ?_; rintro _ _ ⟨rfl, rfl⟩) | (go_at_call 21; refine (lag_no N'.out).mono ?_; rintro _ _ ⟨rfl, rfl⟩))
                exact ⟨⟨i + 1, HLT.out, by simp, ⟨_, _, HP.out.more⟩, HBW.out⟩, by have := HLT.out; simp only [intOf]; omega⟩
              · obtain ⟨p, rfl⟩ : ∃ p : Nat, x = p := ⟨x.toNat, by omega⟩
                have hpk : p < k := by omega
                have hx' : decide ((p : Int) < 0) = false := decide_eq_false hx
                have hx3 : decide ((p : Int) ≥ (k : Int)) = false := decide_eq_false hx2
                have p0 : (0 : Int) ≤ (p : Int) := by omega
                have p1 : (p : Int) < (k : Int) := by omega
                have HPK := Lib.hid hpk
                have hlag := HP.out.lag p HPK.out
                have KN := play_note HP.out p hpk HIM.out
                obtain ⟨a, hv⟩ : ∃ a, now p + 1 = a := ⟨_, rfl⟩
                rw [hv] at KN
                have wn : IntKind.i64.wrap (now p + 1) = a := by have := HIM.out; rw [IntKind.wrap_i64]; omega
                have e1 : IntKind.i64.wrap (a - kept p) = a - kept p := by have := HIM.out; rw [IntKind.wrap_i64]; omega
                have HV := Lib.hid hv
                have B1 := HA.out
                clear hx hx2 hpk
                by_cases due : (B : Int) ≤ a - kept p
                · rw [decide_eq_true due, if_pos due] at KN
                  have KN := Lib.hid KN
                  have eB : a - kept p = (B : Int) := by omega
                  have e2 : (a - kept p == (B : Int)) = true := by rw [eB]; simp
                  have e3 : IntKind.i64.wrap (a - a) = 0 := by rw [Int.sub_self]; decide
                  have e4 : decide ((0 : Int) ≥ (B : Int)) = false := decide_eq_false (by omega)
                  have e5 : decide ((B : Int) ≤ 0) = false := decide_eq_false (by omega)
                  have e6 : decide (B = 0) = false := decide_eq_false (by omega)
                  have e7 : ¬ B = 0 := by omega
                  have HEB := Lib.hid eB
                  clear due hlag hv eB B1
                  go_wp2_with fail
                  refine KN.out.mono ?_
                  rintro _ w5 ⟨rfl, hc5, hb5, r15, r25⟩
                  obtain ⟨cR, iR⟩ := r15.cell p HPK.out
                  have hc6 := hc5.farSet R1 p (.int .i64 a) HP.out.a1 HP.out.a2 HP.out.a3
                  have r16 := r15.set p a HPK.out
                  have r26 := r25.far ⟨R1, p, none⟩ (.int .i64 a) (Ne.symm HP.out.rr)
                  have hb6 : Below w.heap.size w (w5.setCell ⟨R1, p, none⟩ (.int .i64 a)) := Below.setCell (HBW.out.trans hb5) HP.out.d1 _
                  have HC6 := Lib.hid hc6
                  have HR1 := Lib.hid r16
                  have HR2 := Lib.hid r26
                  have HB6 := Lib.hid hb6
                  clear hc5 hb5 r15 r25 KN hc6 r16 r26 hb6
                  go_wp2_with fail
                  generalize w5.setCell ⟨R1, p, none⟩ (.int .i64 a) = w6 at HC6 HR1 HR2 HB6 ⊢
                  clear cR iR wn
                  obtain ⟨c1, i1⟩ := HR1.out.cell p HPK.out
                  rw [updI_same] at c1
                  obtain ⟨c2, i2⟩ := HR2.out.cell p HPK.out
                  refine wp_region_quiet_lit (by kernel_rfl) (by kernel_rfl) ?_
                  repeat (go_big_quiet_step (fail))
                  refine wpQuiet_nil ?_
                  intro _ hw'
                  obtain ⟨nq, hw''⟩ := hw'
                  subst hw''
                  go_wp2_with fail
                  have hc7 := (HC6.out.drewN nq).farSet R2 p (.int .i64 a) HP.out.b1 HP.out.b2 HP.out.b3
                  have r17 := (show RowIn (w6.drewN nq) R1 k (updI now p a) from HR1.out).far ⟨R2, p, none⟩ (.int .i64 a) HP.out.rr
                  have r27 := (show RowIn (w6.drewN nq) R2 k kept from HR2.out).set p a HPK.out
                  have hb7 : Below w.heap.size w ((w6.drewN nq).setCell ⟨R2, p, none⟩ (.int .i64 a)) := Below.setCell (below_drawn (n := nq) HB6.out) HP.out.d2 _
                  have HC7 := Lib.hid hc7
                  have HR17 := Lib.hid r17
                  have HR27 := Lib.hid r27
                  have HB7 := Lib.hid hb7
                  clear hc7 r17 r27 hb7
                  generalize (w6.drewN nq).setCell ⟨R2, p, none⟩ (.int .i64 a) = w7 at HC7 HR17 HR27 HB7 ⊢
                  clear c1 c2 i1 i2 HC6 HR1 HR2 HB6
                  obtain ⟨c1, _⟩ := HR17.out.cell p HPK.out
                  rw [updI_same] at c1
                  obtain ⟨c2, _⟩ := HR27.out.cell p HPK.out
                  rw [updI_same] at c2
                  have L : ∀ k, Calls Try.prog 21 #[.pointer (some ⟨C, 0, none⟩), .int .i64 p] (w7.drewN k) fun e w' => e = .returned (.int .i64 0) ∧ ∃ m, w' = (w7.drewN k).drewN m := by
                    intro k
                    have := lag_in (HC7.out.drewN k) p HPK.out (by rw [updI_same, updI_same, Int.sub_self]; decide)
                    rw [updI_same, updI_same, Int.sub_self] at this
                    exact this
                  have O : ∀ k, Calls Try.prog 20 #[.pointer (some ⟨C, 0, none⟩), .int .i64 p] (w7.drewN k) fun e w' => e = .returned (.int .i64 a) ∧ ∃ m, w' = (w7.drewN k).drewN m := by
                    intro k
                    have := of_in (HC7.out.drewN k) p HPK.out
                    rw [updI_same] at this
                    exact this.mono fun _ _ ⟨h1, h2⟩ => ⟨h1, 0, by rw [← h2]; rfl⟩
                  have L' := Lib.hid L
                  have O' := Lib.hid O
                  clear L O
                  refine wp_region_quiet_lit (by kernel_rfl) (by kernel_rfl) ?_
                  repeat (go_big_quiet_step (first | (go_at_call 21; exact Calls.quiet_of (L'.out _)) | (go_at_call 20; exact Calls.quiet_of (O'.out _))))
                  refine wpQuiet_nil ?_
                  intro _ hw'
                  obtain ⟨nr, hw''⟩ := hw'
                  subst hw''
                  go_wp2
                  have hP := play_step2 HP.out p HPK.out HA.out.1 (w' := w7) (by rw [HV.out]; exact HC7.out) (by rw [HV.out]; exact HR17.out) (by rw [HV.out]; exact HR27.out)
                  exact ⟨⟨i + 1, HLT.out, by simp, ⟨_, _, hP.drewN nr⟩, below_drawn HB7.out⟩, by have := HLT.out; simp only [intOf]; omega⟩
                · rw [decide_eq_false due, if_neg due] at KN
                  have KN := Lib.hid KN
                  have e2 : (a - kept p == (B : Int)) = false := by simp; omega
                  have e4 : decide (a - kept p ≥ (B : Int)) = false := decide_eq_false due
                  have HD := Lib.hid due
                  clear due hlag hv B1
                  go_wp2_with fail
                  refine KN.out.mono ?_
                  rintro _ w5 ⟨rfl, hc5, hb5, r15, r25⟩
                  obtain ⟨cR, iR⟩ := r15.cell p HPK.out
                  have hc6 := hc5.farSet R1 p (.int .i64 a) HP.out.a1 HP.out.a2 HP.out.a3
                  have r16 := r15.set p a HPK.out
                  have r26 := r25.far ⟨R1, p, none⟩ (.int .i64 a) (Ne.symm HP.out.rr)
                  have hb6 : Below w.heap.size w (w5.setCell ⟨R1, p, none⟩ (.int .i64 a)) := Below.setCell (HBW.out.trans hb5) HP.out.d1 _
                  have HC6 := Lib.hid hc6
                  have HR1 := Lib.hid r16
                  have HR2 := Lib.hid r26
                  have HB6 := Lib.hid hb6
                  clear hc5 hb5 r15 r25 KN hc6 r16 r26 hb6
                  go_wp2_with fail
                  generalize w5.setCell ⟨R1, p, none⟩ (.int .i64 a) = w6 at HC6 HR1 HR2 HB6 ⊢
                  clear cR iR wn
                  obtain ⟨c1, i1⟩ := HR1.out.cell p HPK.out
                  rw [updI_same] at c1
                  obtain ⟨c2, i2⟩ := HR2.out.cell p HPK.out
                  refine wp_region_quiet_lit (by kernel_rfl) (by kernel_rfl) ?_
                  repeat (go_big_quiet_step (fail))
                  refine wpQuiet_nil ?_
                  intro _ hw'
                  obtain ⟨nq, hw''⟩ := hw'
                  subst hw''
                  go_wp2_with fail
                  have HC7 := Lib.hid (HC6.out.drewN nq)
                  have HR17 := Lib.hid (show RowIn (w6.drewN nq) R1 k (updI now p a) from HR1.out)
                  have HR27 := Lib.hid (show RowIn (w6.drewN nq) R2 k kept from HR2.out)
                  have HB7 := Lib.hid (below_drawn (n := nq) HB6.out)
                  generalize w6.drewN nq = w7 at HC7 HR17 HR27 HB7 ⊢
                  clear c1 c2 i1 i2 HC6 HR1 HR2 HB6
                  obtain ⟨c1, _⟩ := HR17.out.cell p HPK.out
                  rw [updI_same] at c1
                  obtain ⟨c2, _⟩ := HR27.out.cell p HPK.out
                  have L : ∀ k, Calls Try.prog 21 #[.pointer (some ⟨C, 0, none⟩), .int .i64 p] (w7.drewN k) fun e w' => e = .returned (.int .i64 (a - kept p)) ∧ ∃ m, w' = (w7.drewN k).drewN m := by
                    intro k
                    have := lag_in (HC7.out.drewN k) p HPK.out (by rw [updI_same]; exact e1)
                    rw [updI_same] at this
                    exact this
                  have O : ∀ k, Calls Try.prog 20 #[.pointer (some ⟨C, 0, none⟩), .int .i64 p] (w7.drewN k) fun e w' => e = .returned (.int .i64 a) ∧ ∃ m, w' = (w7.drewN k).drewN m := by
                    intro k
                    have := of_in (HC7.out.drewN k) p HPK.out
                    rw [updI_same] at this
                    exact this.mono fun _ _ ⟨h1, h2⟩ => ⟨h1, 0, by rw [← h2]; rfl⟩
                  have L' := Lib.hid L
                  have O' := Lib.hid O
                  clear L O
                  refine wp_region_quiet_lit (by kernel_rfl) (by kernel_rfl) ?_
                  repeat (go_big_quiet_step (first | (go_at_call 21; exact Calls.quiet_of (L'.out _)) | (go_at_call 20; exact Calls.quiet_of (O'.out _))))
                  refine wpQuiet_nil ?_
                  intro _ hw'
                  obtain ⟨nr, hw''⟩ := hw'
                  subst hw''
                  go_wp2
                  have hP := play_step HP.out p HPK.out HA.out.1 (by rw [HV.out]; exact Int.not_le.2 HD.out) (w' := w7) (by rw [HV.out]; exact HC7.out) (by rw [HV.out]; exact HR17.out) HR27.out
                  exact ⟨⟨i + 1, HLT.out, by simp, ⟨_, _, hP.drewN nr⟩, below_drawn HB7.out⟩, by have := HLT.out; simp only [intOf]; omega⟩
        · have : i = m := by omega
          subst this
          have hltz : ¬ (i : Int) < (i : Int) := by omega
          have KA := Lib.hid (all_in HP.out.hc (by have := HN1.out; omega) (by have := HN1.out; omega))
          go_wp2_with fail
          refine KA.out.mono ?_
          rintro _ w8 ⟨g', cap', rfl, hr, hb8⟩
          have KI := Lib.hid (ints_same w8 g' R1 k cap' c1 now hr (by
            obtain ⟨c, h1, h2⟩ := HP.out.r1
            exact ⟨c, keep hb8 h1, h2⟩) (by have := HN1.out; omega))
          have HB8 := Lib.hid (HBW.out.trans (hb8.mono HBW.out.size))
          clear hr hb8
          go_wp2_with fail
          refine KI.out.mono ?_
          rintro _ _ ⟨rfl, nz, rfl⟩
          go_wp2_with fail
          refine (awake10 _).mono ?_
          rintro _ wz ⟨rfl, hbz⟩
          go_wp2
          go_ret
          exact ⟨rfl, HB8.out.trans (Below.mono (show Below w8.heap.size w8 wz from ⟨hbz.os, hbz.tape, hbz.output, hbz.size, hbz.block⟩) HB8.out.size)⟩

theorem countPlays_walk (a : Int) (v1 : Value) (l1 : List Int) (v2 : Value) (l2 : List Int) (w : World) (s1 : IntSlice w v1 l1) (_ : ∀ x ∈ l1, (Lit.int .i64 x).wf = true) (s2 : IntSlice w v2 l2) (_ : ∀ x ∈ l2, (Lit.int .i64 x).wf = true) (_ : (Lit.int .i64 a).wf = true) :
    Calls Try.prog 7 #[.int .i64 a, v1, v2] w fun e w' => e = .returned (.bool true) ∧ Below w.heap.size w w' := by
  obtain ⟨ao2, cap2, hv2⟩ : ∃ ao cap, v2 = .slice ao l2.length cap := by
    rcases s2 with ⟨ao, cap, h, rfl⟩ | ⟨b, off, cap, h, _⟩
    · exact ⟨ao, cap, h⟩
    · exact ⟨_, _, h⟩
  by_cases hok : 400 < l2.length ∨ 60 < l1.length ∨ a < 1 ∨ 100 < a ∨ 16 < l1.length
  · rw [hv2]
    rcases s1 with ⟨ao, cap, rfl, rfl⟩ | ⟨b, off, cap, rfl, _⟩
    · exact plays_no a ao ao2 0 _ cap cap2 w hok
    · exact plays_no a _ ao2 _ _ cap cap2 w hok
  · rcases s1 with ⟨ao, cap, rfl, rfl⟩ | ⟨b, off, cap, rfl, h0, _, _, hc⟩
    · exact plays_zero a ao cap v2 l2 w s2 (by omega) (by omega)
    · obtain ⟨B, rfl⟩ : ∃ B : Nat, a = B := ⟨a.toNat, by omega⟩
      exact plays_some B b off _ cap l1 v2 l2 w rfl hc (by omega) s2 (by omega) (by omega)
end Go.Proofs.Ytommjfmglfjgjaa
