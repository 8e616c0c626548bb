/- The walk of MeanHeld. -/
import Derived.Test.YtfhcgnkjncfeiaaMh
namespace Go.Proofs.Ytfhcgnkjncfeiaa
open Go.ChangeShapes Go.WideShapes Go.RowKit Fl

theorem below_of {w wr wA : World} {base k : Nat} {s1 : Value} {xs : List Value} {o1 : Obj} (hb : Below base w wr) (hs : base ≤ wr.heap.size) (H1 : wr.ownsRow base 3 1 s1 k xs) (hgA : (wr.alloc o1).grownBy wA s1.ownBlock) : Below base w wA :=
  (hb.alloc hs o1).grown hgA (by simp; omega) (fun j hj => (H1.lt j hj).1)
theorem cell_kept {w wr : World} {bb j : Nat} {u : Value} (hb : Below w.heap.size w wr) (cJ : cellAt (obj w bb) j = some u) : cellAt (obj wr bb) j = some u := by
  obtain ⟨o, ho⟩ : ∃ o, obj w bb = some o := by
    cases h2 : obj w bb with
    | none => rw [h2] at cJ; simp [cellAt] at cJ
    | some o => exact ⟨o, rfl⟩
  rw [keep hb ho, ← ho]; exact cJ

set_option maxRecDepth 100000 in
set_option maxHeartbeats 3200000 in
theorem meanHeld_walk (v : Value) (l : List Int) (w : World) (hs' : IntSlice w v l) (_ : ∀ x ∈ l, (Lit.int .i64 x).wf = true) :
    Calls Try.prog 6 #[v] w fun e w' => e = .returned (.bool true) ∧ Below w.heap.size w w' := by
  have hN : Wd NANW := by unfold Wd; decide
  have c1 := ecmp_self NANW
  rcases hs' with ⟨ao, cap, rfl, rfl⟩ | ⟨bb, off, cap, rfl, h0, hcap, hmax, hcell⟩
  · go_enter Try.func6, Try.ntmps6
    go_wp2_with fail
    go_loopw [3, 12] (fun s i wr => i = .int .i64 0 ∧ s = .slice none 0 0 ∧ wr = w) (fun _ _ _ => 0)
    case atStart => exact ⟨rfl, rfl, rfl⟩
    case round =>
      obtain ⟨rfl, rfl, rfl⟩ := hrel
      go_wp2_with fail
      refine (mean_none _ _ _).mono ?_
      rintro _ _ ⟨rfl, rfl⟩
      go_wp2_with fail
      refine (mean_none _ _ _).mono ?_
      rintro _ _ ⟨rfl, rfl⟩
      go_wp2_with fail
      refine (rcmp_any _ _ _ hN hN).mono ?_
      rintro _ _ ⟨rfl, rfl⟩
      go_wp2_with fail
      refine (var_none _ _ _).mono ?_
      rintro _ _ ⟨rfl, rfl⟩
      go_wp2_with fail
      refine (var_none _ _ _).mono ?_
      rintro _ _ ⟨rfl, rfl⟩
      go_wp2_with fail
      refine (rcmp_any _ _ _ hN hN).mono ?_
      rintro _ _ ⟨rfl, rfl⟩
      go_wp2_with fail
      refine (uneven_none _ _ _).mono ?_
      rintro _ _ ⟨rfl, rfl⟩
      go_wp2_with fail
      refine (uneven_none _ _ _).mono ?_
      rintro _ _ ⟨rfl, rfl⟩
      go_wp2_with fail
      refine (rcmp_any _ _ _ hN hN).mono ?_
      rintro _ _ ⟨rfl, rfl⟩
      go_wp2_with fail
      refine (awake2_any _).mono ?_
      rintro _ w2 ⟨rfl, hb⟩
      go_wp2
      go_ret
      exact ⟨rfl, hb⟩
  · obtain ⟨n, hn⟩ : ∃ n, l.length = n := ⟨_, rfl⟩
    rw [hn] at h0 hcap hcell ⊢
    have hI : IntsAt w bb off n fun j => l.getD j 0 := hcell
    generalize (fun j => l.getD j 0) = f at hI
    by_cases hbig : 150 < n
    · have d1 : decide (150 < (n : Int)) = true := decide_eq_true (by omega)
      clear hbig hI hcell h0 hcap hmax hn
      go_enter Try.func6, Try.ntmps6
      go_wp2_with fail
      refine (awake2_any _).mono ?_
      rintro _ w2 ⟨rfl, hb⟩
      go_wp2
      go_ret
      exact ⟨rfl, hb⟩
    · have d1 : decide (150 < (n : Int)) = false := decide_eq_false (by omega)
      unfold maxLen at hmax
      obtain ⟨i0, hi0, hz0, hz1, hz2⟩ := info_parts info3
      obtain ⟨g, hg⟩ : ∃ g : Nat → Int, g = fun j => heldI (f j) := ⟨_, rfl⟩
      have hgf : ∀ j, max 0 (min (f j) 1000000) = g j := fun j => by rw [hg]; show _ = heldI (f j); unfold heldI; omega
      have hsame := mean_congr (f := f) (g := g) (n := n) (fun j _ => by rw [hg]; exact (heldI_held _).symm)
      obtain ⟨e1, e2, e3⟩ := hsame
      obtain ⟨w1, w2, w3⟩ := mean_words g n
      have k1 := ecmp_self (meanF g n)
      have k2 := ecmp_self (varF g n)
      have k3 := ecmp_self (unevenF g n)
      have HI := Lib.hid hI
      have HN := Lib.hid (show 1 ≤ n ∧ n ≤ 150 by omega)
      have HC := Lib.hid (show n ≤ cap ∧ cap ≤ 9223372036854775807 by omega)
      have E1 := Lib.hid e1
      have E2 := Lib.hid e2
      have E3 := Lib.hid e3
      have HG := Lib.hid hgf
      clear hbig hI hcell h0 hcap hmax hn hg hgf e1 e2 e3 c1 hN
      go_enter Try.func6, Try.ntmps6
      go_wp2_with fail
      go_loopw [3, 12] (fun s i wr => ∃ k : Nat, k ≤ n ∧ i = .int .i64 k ∧ wr.ownsRow w.heap.size 3 1 s k (rowK g k) ∧ Below w.heap.size w wr) (fun _ i _ => n - (intOf i).toNat)
      case atStart => exact ⟨0, by omega, rfl, World.ownsRow_nil _ _ _ _, Below.refl _ _⟩
      case round =>
        obtain ⟨k, hk, rfl, o1, ob⟩ := hrel
        have H1 := Lib.hid o1
        have HB := Lib.hid ob
        clear o1 ob
        by_cases hlt : k < n
        · have hltz : (k : Int) < (n : Int) := by omega
          have cJ := cell_kept HB.out (HI.out k hlt)
          have hx := HG.out k
          have wk : IntKind.i64.wrap ((k : Int) + 1) = (k : Int) + 1 := by have := HN.out; rw [IntKind.wrap_i64]; omega
          generalize f k = x at cJ hx
          have HLT := Lib.hid hlt
          clear hlt hk
          go_wp2_with (at_builtin; refine wpList_append_lies _ rfl (.tmp 16) (.tmp 20) 22 rfl w.heap.size 3 i0 _ 1 8 Try.underlying22 hi0 hz0 hz1 hz2 rfl (by decide) _ k _ rfl (H1.out.alloc _) ⟨wr.heap.size, 0, none⟩ 1 1 [.int .i64 (g k)] rfl rfl (cell_one_new _ _ _) (by simp [Value.oneCell']) (by decide) (by have := HN.out; have := HLT.out; unfold maxLen; omega) (by have := HN.out; have := HLT.out; omega) (by have := HB.out.size; simp; omega) (wr.heap.size + 1) (by simp) ?_; intro gA cA wA hownA hgrowA hatA hltA)
          exact ⟨⟨k + 1, HLT.out, by simp, by rw [rowK_succ]; exact hownA, below_of HB.out HB.out.size H1.out hgrowA⟩, by have := HLT.out; simp only [intOf]; omega⟩
        · have : k = n := by omega
          subst this
          have hltz : ¬ (k : Int) < (k : Int) := by omega
          obtain ⟨g2, cap2, rfl, _, _, hc1, hc2, hrow⟩ := row_of H1.out HN.out.1
          have hIr : IntsAt wr bb off k f := fun j hj => cell_kept HB.out (HI.out j hj)
          have A1 := Lib.hid (mean_any f bb off k cap wr hIr HC.out.1 HC.out.2)
          have A2 := Lib.hid (mean_any g g2 0 k cap2 wr hrow hc1 hc2)
          have A3 := Lib.hid (var_any f bb off k cap wr hIr HC.out.1 HC.out.2)
          have A4 := Lib.hid (var_any g g2 0 k cap2 wr hrow hc1 hc2)
          have A5 := Lib.hid (uneven_any f bb off k cap wr hIr HC.out.1 HC.out.2)
          have A6 := fun d => Lib.hid (uneven_any g g2 0 k cap2 (wr.drewN d) (show IntsAt (wr.drewN d) g2 0 k g from hrow) hc1 hc2)
          rw [E1.out] at A1
          rw [E2.out] at A3
          rw [E3.out] at A5
          generalize meanF g k = m1 at A1 A2 w1 k1
          generalize varF g k = m2 at A3 A4 w2 k2
          generalize unevenF g k = m3 at A5 A6 w3 k3
          clear hrow hIr hc1 hc2 E1 E2 E3 hk hlt
          go_wp2_with fail
          refine A1.out.mono ?_
          rintro _ _ ⟨rfl, rfl⟩
          go_wp2_with fail
          refine A2.out.mono ?_
          rintro _ _ ⟨rfl, rfl⟩
          go_wp2_with fail
          refine (rcmp_any _ _ _ w1 w1).mono ?_
          rintro _ _ ⟨rfl, rfl⟩
          go_wp2_with fail
          refine A3.out.mono ?_
          rintro _ _ ⟨rfl, rfl⟩
          go_wp2_with fail
          refine A4.out.mono ?_
          rintro _ _ ⟨rfl, rfl⟩
          go_wp2_with fail
          refine (rcmp_any _ _ _ w2 w2).mono ?_
          rintro _ _ ⟨rfl, rfl⟩
          go_wp2_with fail
          refine A5.out.mono ?_
          rintro _ _ ⟨rfl, d1, rfl⟩
          go_wp2_with fail
          refine (A6 d1).out.mono ?_
          rintro _ _ ⟨rfl, d2, rfl⟩
          go_wp2_with fail
          refine (rcmp_any _ _ _ w3 w3).mono ?_
          rintro _ _ ⟨rfl, rfl⟩
          go_wp2_with fail
          refine (awake2_any _).mono ?_
          rintro _ w9 ⟨rfl, hb⟩
          go_wp2
          go_ret
          exact ⟨rfl, HB.out.trans (Below.mono (show Below wr.heap.size wr w9 from ⟨hb.os, hb.tape, hb.output, hb.size, hb.block⟩) HB.out.size)⟩
end Go.Proofs.Ytfhcgnkjncfeiaa
