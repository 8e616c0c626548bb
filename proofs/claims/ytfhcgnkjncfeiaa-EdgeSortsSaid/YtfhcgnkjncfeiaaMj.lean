/- The walk of MeanScales. -/
import Derived.Test.YtfhcgnkjncfeiaaMi
namespace Go.Proofs.Ytfhcgnkjncfeiaa
open Go.ChangeShapes Go.WideShapes Go.RowKit Fl

/-- two rows that grow side by side -/
theorem two_grow {wr wA wB : World} {base k g1 g2 cap1 : Nat} {s1 s2 : Value} {xs ys : List Value} {o1 o2 : Obj} (H2 : wr.ownsRow base 3 1 s2 k xs) (ap : s1.ownBlock = none ∨ s1.ownBlock ≠ s2.ownBlock)
    (hA : wA.ownsRow base 3 1 (.slice (some ⟨g1, 0, none⟩) (k + 1) cap1) (k + 1) ys) (hgA : (wr.alloc o1).grownBy wA s1.ownBlock) (hatA : s1.ownBlock = some g1 ∨ g1 = wr.heap.size + 1) (hltA : g1 < wA.heap.size)
    (hgB : (wA.alloc o2).grownBy wB s2.ownBlock) (hatB : s2.ownBlock = some g2 ∨ g2 = wA.heap.size + 1) :
    wB.ownsRow base 3 1 (.slice (some ⟨g1, 0, none⟩) (k + 1) cap1) (k + 1) ys ∧ g1 ≠ g2 := by
  have h : s2.ownBlock ≠ some g1 := by
    intro e
    rcases hatA with h | h
    · rcases ap with h2 | h2
      · rw [h] at h2; cases h2
      · exact h2 (h.trans e.symm)
    · have := (H2.lt g1 e).2; omega
  refine ⟨(hA.alloc o2).kept hgB (Or.inr fun e => h e.symm), ?_⟩
  rcases hatB with h2 | h2
  · intro e; subst e; exact h h2
  · omega
theorem two_keep {wr wA : World} {base k : Nat} {s1 s2 : Value} {xs : List Value} {o1 : Obj} (H2 : wr.ownsRow base 3 1 s2 k xs) (ap : s1.ownBlock = none ∨ s1.ownBlock ≠ s2.ownBlock) (hgA : (wr.alloc o1).grownBy wA s1.ownBlock) (o2 : Obj) :
    (wA.alloc o2).ownsRow base 3 1 s2 k xs := by
  refine ((H2.alloc o1).kept hgA ?_).alloc o2
  rcases ap with h | h
  · rw [h]; cases s2.ownBlock <;> simp
  · exact Or.inr (Ne.symm h)
theorem two_below {w wr wA wB : World} {base k : Nat} {s1 s2 : Value} {xs ys : List Value} {o1 o2 : Obj} (hb : Below base w wr) (hs : base ≤ wr.heap.size) (H1 : wr.ownsRow base 3 1 s1 k xs) (H2 : wr.ownsRow base 3 1 s2 k ys)
    (hgA : (wr.alloc o1).grownBy wA s1.ownBlock) (hgB : (wA.alloc o2).grownBy wB s2.ownBlock) : Below base w wB := by
  have h1 : Below base w wA := (hb.alloc hs o1).grown hgA (by simp; omega) (fun j hj => (H1.lt j hj).1)
  have := hgA.size
  refine (h1.alloc (by simp at this; omega) o2).grown hgB (by simp at this ⊢; omega) (fun j hj => (H2.lt j hj).1)

/-! ### twice as large -/
theorem scale_sums (f : Nat → Int) (hf : ∀ j, 0 ≤ f j ∧ f j ≤ 400000) (k : Nat) :
    0 ≤ hs f k ∧ hs f k ≤ 400000 * k ∧ hs (fun j => 2 * f j) k = 2 * hs f k ∧ 0 ≤ hq f k ∧ hq f k ≤ 160000000000 * k ∧ hq (fun j => 2 * f j) k = 4 * hq f k ∧ hm (fun j => 2 * f j) k = 2 * hm f k ∧ hm f k ≤ 400000 := by
  induction k with
  | zero => simp [hs, hq, hm]
  | succ k ih =>
    have h1 := hf k
    have e1 := heldI_in (x := f k) (by omega)
    have e2 := heldI_in (x := 2 * f k) (by omega)
    have b : 0 ≤ f k * f k ∧ f k * f k ≤ 400000 * 400000 := ⟨Int.mul_nonneg h1.1 h1.1, Int.mul_le_mul h1.2 h1.2 h1.1 (by decide)⟩
    have e3 : 2 * f k * (2 * f k) = 4 * (f k * f k) := by rw [Int.mul_assoc, Int.mul_left_comm (f k)]; omega
    simp only [hs, hq, hm, e1, e2, e3]
    omega
theorem scale_all (f : Nat → Int) (hf : ∀ j, 0 ≤ f j ∧ f j ≤ 400000) (n : Nat) (h : 1 ≤ n ∧ n ≤ 100) :
    fmul TWO (meanF f n) = some (meanF (fun j => 2 * f j) n) ∧ fmul FOUR (varF f n) = some (varF (fun j => 2 * f j) n) ∧ unevenF (fun j => 2 * f j) n = unevenF f n ∧
      isnan (meanF (fun j => 2 * f j) n) = false ∧ isnan (varF (fun j => 2 * f j) n) = false := by
  obtain ⟨s1, s2, s3, q1, q2, q3, m1, m2⟩ := scale_sums f hf n
  have hmb := hm_bd f n
  have hle := hs_le_hm f n
  obtain ⟨S, hS⟩ : ∃ S : Nat, hs f n = S := ⟨(hs f n).toNat, by omega⟩
  obtain ⟨M, hM⟩ : ∃ M : Nat, hm f n = M := ⟨(hm f n).toNat, by omega⟩
  obtain ⟨V, hV⟩ : ∃ V : Nat, vN f n = V := ⟨(vN f n).toNat, by have := vN_nonneg f n; omega⟩
  have v4 : vN (fun j => 2 * f j) n = ((2 * (2 * V) : Nat) : Int) := by
    have e : vN (fun j => 2 * f j) n = 4 * vN f n := by
      unfold vN
      rw [s3, q3, Int.mul_sub, Int.mul_left_comm, Int.mul_assoc 2, Int.mul_left_comm (hs f n)]; omega
    rw [e, hV]; omega
  have s4 : hs (fun j => 2 * f j) n = ((2 * S : Nat) : Int) := by rw [s3, hS]; omega
  have m4 : hm (fun j => 2 * f j) n = ((2 * M : Nat) : Int) := by rw [m1, hM]; omega
  have hVb : V ≤ 1600000000000000 := by
    have h2 : 0 ≤ hs f n * hs f n := Int.mul_nonneg s1 s1
    have h3 : (n : Int) * hq f n ≤ 100 * 16000000000000 := Int.mul_le_mul (by omega) (by omega) q1 (by decide)
    have : vN f n = n * hq f n - hs f n * hs f n := rfl
    omega
  have hSb : S ≤ 40000000 := by omega
  have hMb : M ≤ 400000 := by omega
  have hle' : S ≤ n * M := by rw [hS, hM] at hle; exact_mod_cast hle
  have hnn := nn_bd n (by omega)
  have en : ((n * n : Nat) : Int) = (n : Int) * n := Int.natCast_mul n n
  have hnn' : 1 ≤ n * n ∧ n * n ≤ 9007199254740992 := by omega
  have hmn := (Nat.le_refl n)
  have hok := okN_true (n := n) (by omega)
  have ef : meanF f n = quoW (S : Int) n := by unfold meanF; rw [hok, hS]; simp only [if_true]
  have eg : meanF (fun j => 2 * f j) n = quoW ((2 * S : Nat) : Int) n := by unfold meanF; rw [hok, s4]; simp only [if_true]
  have vf : varF f n = quoW (V : Int) ((n * n : Nat) : Int) := by unfold varF; rw [hok, hV, en]; simp only [if_true]
  have vg : varF (fun j => 2 * f j) n = quoW ((2 * (2 * V) : Nat) : Int) ((n * n : Nat) : Int) := by unfold varF; rw [hok, v4, en]; simp only [if_true]
  obtain ⟨_, _, p3, p4, p5⟩ := quoN S n (by omega) (by omega)
  obtain ⟨_, _, p6, _⟩ := quoN (2 * S) n (by omega) (by omega)
  obtain ⟨_, _, r3, r4, r5⟩ := quoN V (n * n) (by omega) hnn'
  obtain ⟨_, _, r6, _⟩ := quoN (2 * (2 * V)) (n * n) (by omega) hnn'
  have hI : M53 + B + B + B < INF := by decide
  have hL : B ≤ LOW := by decide
  refine ⟨?_, ?_, ?_, ?_, ?_⟩
  · rw [ef, eg]
    rcases Nat.eq_zero_or_pos S with h0 | h0
    · subst h0
      rw [(quoN_zero_iff 0 n (by decide) (by omega)).2 rfl]
      exact mul_nought (s := 1) (by decide) (by decide)
    · rw [quoN_two S n h0 (by omega) (by omega)]
      exact mul_two (by have := p4 h0; omega) (by omega)
  · rw [vf, vg]
    rcases Nat.eq_zero_or_pos V with h0 | h0
    · subst h0
      rw [(quoN_zero_iff 0 (n * n) (by decide) hnn').2 rfl]
      exact mul_nought (s := 2) (by decide) (by decide)
    · rw [quoN_two (2 * V) (n * n) (by omega) (by omega) hnn', quoN_two V (n * n) h0 (by omega) hnn']
      exact mul_four (by have := r4 h0; omega) (by omega)
  · rcases uneven_eq f n (by omega) with ⟨z1, z2, _⟩ | ⟨z1, z2, _⟩
    · rcases uneven_eq (fun j => 2 * f j) n (by omega) with ⟨_, y2, _⟩ | ⟨y1, _⟩
      · rw [z2, y2]
      · rw [s4] at y1; rw [hS] at z1; omega
    · rcases uneven_eq (fun j => 2 * f j) n (by omega) with ⟨y1, _, _⟩ | ⟨y1, y2, _⟩
      · rw [s4] at y1; rw [hS] at z1; omega
      · rw [hS] at z1
        rw [hS, hM] at z2
        rw [s4, m4, over_two hle' (by omega) (by omega) (by omega) (by omega), z2] at y2
        exact (Option.some.inj y2).symm
  · rw [eg]; exact (plain_fine p6).2.1
  · rw [vg]; exact (plain_fine r6).2.1
theorem uneven_nan (f : Nat → Int) (n : Nat) (h : 1 ≤ n ∧ n ≤ 200) : unevenF f n = NANW ∨ isnan (unevenF f n) = false := by
  rcases uneven_eq f n h with ⟨_, e, _⟩ | ⟨_, _, _, e, _⟩
  · exact Or.inl e
  · have : HIGH < INF := by decide
    exact Or.inr (plain_fine (show unevenF f n < INF by omega)).2.1

set_option maxRecDepth 100000 in
set_option maxHeartbeats 3200000 in
theorem meanScales_walk (v : Value) (l : List Int) (w : World) (hs' : IntSlice w v l) (_ : ∀ x ∈ l, (Lit.int .i64 x).wf = true) :
    Calls Try.prog 5 #[v] w fun e w' => e = .returned (.bool true) ∧ Below w.heap.size w w' := by
  rcases hs' with ⟨ao, cap, rfl, rfl⟩ | ⟨bb, off, cap, rfl, h0, hcap, hmax, hcell⟩
  · go_enter Try.func5, Try.ntmps5
    go_wp2_with fail
    refine (awake2_any _).mono ?_
    rintro _ w2 ⟨rfl, hb⟩
    go_wp2
    go_ret
    exact ⟨rfl, hb⟩
  · obtain ⟨n, hn⟩ : ∃ n, l.length = n := ⟨_, rfl⟩
    rw [hn] at h0 hcap hcell ⊢
    have hI : IntsAt w bb off n fun j => l.getD j 0 := hcell
    generalize (fun j => l.getD j 0) = f0 at hI
    have d0 : decide ((n : Int) < 1) = false := decide_eq_false (by omega)
    by_cases hbig : 100 < n
    · have d1 : decide (100 < (n : Int)) = true := decide_eq_true (by omega)
      clear hbig hI hcell h0 hcap hmax hn
      go_enter Try.func5, Try.ntmps5
      go_wp2_with fail
      refine (awake2_any _).mono ?_
      rintro _ w2 ⟨rfl, hb⟩
      go_wp2
      go_ret
      exact ⟨rfl, hb⟩
    · have d1 : decide (100 < (n : Int)) = false := decide_eq_false (by omega)
      obtain ⟨i0, hi0, hz0, hz1, hz2⟩ := info_parts info3
      obtain ⟨f, hf⟩ : ∃ f : Nat → Int, f = fun j => (IntKind.u64.wrap (f0 j)).tmod 400001 := ⟨_, rfl⟩
      have hff : ∀ j, (IntKind.u64.wrap (f0 j)).tmod 400001 = f j := fun j => by rw [hf]
      have hfb : ∀ j, 0 ≤ f j ∧ f j ≤ 400000 := fun j => by
        rw [← hff]
        have h1 : 0 ≤ IntKind.u64.wrap (f0 j) := by rw [IntKind.wrap_u64]; omega
        have h2 := Int.tmod_nonneg 400001 h1
        have h3 := Int.tmod_lt_of_pos (IntKind.u64.wrap (f0 j)) (by decide : (0 : Int) < 400001)
        omega
      obtain ⟨t1, t2, t3, t4, t5⟩ := scale_all f hfb n (by omega)
      have t6 := uneven_nan f n (by omega)
      obtain ⟨g, hg⟩ : ∃ g : Nat → Int, g = fun j => 2 * f j := ⟨_, rfl⟩
      rw [← hg] at t1 t2 t3 t4 t5
      have hgf : ∀ j, 2 * f j = g j := fun j => by rw [hg]
      have u1 : ∀ t w, (binOp .mul t (.float .f64 4611686018427387904) (.float .f64 (meanF f n))).run Try.prog w = .ok (.float .f64 (meanF g n)) w := fun t w => run_float_arith w .mul t .f64 _ _ _ t1
      have u2 : ∀ t w, (binOp .mul t (.float .f64 4616189618054758400) (.float .f64 (varF f n))).run Try.prog w = .ok (.float .f64 (varF g n)) w := fun t w => run_float_arith w .mul t .f64 _ _ _ t2
      have s1 : feq (meanF g n) (meanF g n) = true := by rw [feq_self, t4]; rfl
      have s2 : feq (varF g n) (varF g n) = true := by rw [feq_self, t5]; rfl
      have HI := Lib.hid hI
      have HN := Lib.hid (show 1 ≤ n ∧ n ≤ 100 by omega)
      have HF := Lib.hid hff
      have HFb := Lib.hid hfb
      have HG := Lib.hid hgf
      have T3 := Lib.hid t3
      have T6 := Lib.hid t6
      clear hbig hI hcell h0 hcap hmax hn hg hgf hf hff hfb t1 t2 t3 t4 t5 t6
      go_enter Try.func5, Try.ntmps5
      go_wp2_with fail
      go_loopw [3, 4, 20] (fun s1 s2 i wr => ∃ k : Nat, k ≤ n ∧ i = .int .i64 k ∧ wr.ownsRow w.heap.size 3 1 s1 k (rowK f k) ∧ wr.ownsRow w.heap.size 3 1 s2 k (rowK g k) ∧ (s1.ownBlock = none ∨ s1.ownBlock ≠ s2.ownBlock) ∧ Below w.heap.size w wr) (fun _ _ i _ => n - (intOf i).toNat)
      case atStart => exact ⟨0, by omega, rfl, World.ownsRow_nil _ _ _ _, World.ownsRow_nil _ _ _ _, Or.inl rfl, Below.refl _ _⟩
      case round =>
        obtain ⟨k, hk, rfl, o1, o2, oa, ob⟩ := hrel
        have H1 := Lib.hid o1
        have H2 := Lib.hid o2
        have HAp := Lib.hid oa
        have HB := Lib.hid ob
        clear o1 o2 oa ob
        by_cases hlt : k < n
        · have hltz : (k : Int) < (n : Int) := by omega
          have cJ := cell_kept HB.out (HI.out k hlt)
          have hx := HF.out k
          have hy := HG.out k
          have hb := HFb.out k
          have wk : IntKind.i64.wrap ((k : Int) + 1) = (k : Int) + 1 := by have := HN.out; rw [IntKind.wrap_i64]; omega
          have wy : wrap64 (f k) = f k := by unfold wrap64; omega
          have wz : IntKind.i64.wrap (2 * f k) = g k := by rw [hy, IntKind.wrap_i64]; omega
          generalize f0 k = x at cJ hx
          have HLT := Lib.hid hlt
          clear hlt hk hb hy
          go_wp2_with (first
            | (at_builtin; refine wpList_append_lies _ rfl (.tmp 28) (.tmp 30) 22 rfl w.heap.size 3 i0 _ 1 8 Try.underlying22 hi0 hz0 hz1 hz2 rfl (by decide) _ k _ rfl (H1.out.alloc _) ⟨wr.heap.size, 0, none⟩ 1 1 [.int .i64 (f k)] rfl rfl (cell_one_new _ _ _) (by simp [Value.oneCell']) (by decide) (by have := HN.out; have := HLT.out; unfold maxLen; omega) (by have := HN.out; have := HLT.out; omega) (by have := HB.out.size; simp; omega) (wr.heap.size + 1) (by simp) ?_; intro gA cA wA hownA hgrowA hatA hltA)
            | (at_builtin; refine wpList_append_lies _ rfl (.tmp 32) (.tmp 35) 22 rfl w.heap.size 3 i0 _ 1 8 Try.underlying22 hi0 hz0 hz1 hz2 rfl (by decide) _ k _ rfl (two_keep H2.out HAp.out hgrowA _) ⟨wA.heap.size, 0, none⟩ 1 1 [.int .i64 (g k)] rfl rfl (cell_one_new _ _ _) (by simp [Value.oneCell']) (by decide) (by have := HN.out; have := HLT.out; unfold maxLen; omega) (by have := HN.out; have := HLT.out; omega) (by have := HB.out.size; have := hgrowA.size; simp at this ⊢; omega) (wA.heap.size + 1) (by simp) ?_; intro gB cB wB hownB hgrowB hatB hltB))
          have hg := two_grow H2.out HAp.out hownA hgrowA hatA hltA hgrowB hatB
          have hb := two_below HB.out HB.out.size H1.out H2.out hgrowA hgrowB
          exact ⟨⟨k + 1, HLT.out, by simp, by rw [rowK_succ]; exact hg.1, by rw [rowK_succ]; exact hownB, Or.inr (by simpa [Value.ownBlock] using hg.2), hb⟩, by have := HLT.out; simp only [intOf]; omega⟩
        · have : k = n := by omega
          subst this
          have hltz : ¬ (k : Int) < (k : Int) := by omega
          obtain ⟨ga, capA, rfl, _, _, ha1, ha2, rowA⟩ := row_of H1.out HN.out.1
          obtain ⟨gb, capB, rfl, _, _, hb1, hb2, rowB⟩ := row_of H2.out HN.out.1
          have A1 := Lib.hid (uneven_any f ga 0 k capA wr rowA ha1 ha2)
          have A2 := fun d => Lib.hid (uneven_any g gb 0 k capB (wr.drewN d) (show IntsAt (wr.drewN d) gb 0 k g from rowB) hb1 hb2)
          have A3 := fun d => Lib.hid (mean_any g gb 0 k capB (wr.drewN d) (show IntsAt (wr.drewN d) gb 0 k g from rowB) hb1 hb2)
          have A4 := fun d => Lib.hid (mean_any f ga 0 k capA (wr.drewN d) (show IntsAt (wr.drewN d) ga 0 k f from rowA) ha1 ha2)
          have A5 := fun d => Lib.hid (var_any g gb 0 k capB (wr.drewN d) (show IntsAt (wr.drewN d) gb 0 k g from rowB) hb1 hb2)
          have A6 := fun d => Lib.hid (var_any f ga 0 k capA (wr.drewN d) (show IntsAt (wr.drewN d) ga 0 k f from rowA) ha1 ha2)
          have A2' := A2
          rw [T3.out] at A2'
          have hcase : ∃ b : Bool, feq (unevenF f k) (unevenF f k) = b := ⟨_, rfl⟩
          generalize meanF f k = m1 at A4 u1
          generalize meanF g k = m2 at A3 u1 s1
          generalize varF f k = v1 at A6 u2
          generalize varF g k = v2 at A5 u2 s2
          generalize unevenF f k = z at A1 A2' hcase T6
          obtain ⟨b, hb⟩ := hcase
          clear rowA rowB ha1 ha2 hb1 hb2 A2 T3 T6 hk hlt
          cases b
          all_goals
            go_wp2_with fail
            refine A1.out.mono ?_
            rintro _ _ ⟨rfl, d1, rfl⟩
            go_wp2_with fail
            refine (A2' d1).out.mono ?_
            rintro _ _ ⟨rfl, d2, rfl⟩
            rw [World.drewN_drewN]
            go_wp2_with fail
            refine (A3 (d1 + d2)).out.mono ?_
            rintro _ _ ⟨rfl, rfl⟩
            go_wp2_with fail
            refine (A4 (d1 + d2)).out.mono ?_
            rintro _ _ ⟨rfl, rfl⟩
            go_wp2_with fail
            refine (A5 (d1 + d2)).out.mono ?_
            rintro _ _ ⟨rfl, rfl⟩
            go_wp2_with fail
            refine (A6 (d1 + d2)).out.mono ?_
            rintro _ _ ⟨rfl, rfl⟩
            go_wp2_with fail
            refine (awake2_any _).mono ?_
            rintro _ w9 ⟨rfl, hb⟩
            go_wp2
            go_ret
            exact ⟨rfl, HB.out.trans (Below.mono (show Below wr.heap.size wr w9 from ⟨hb.os, hb.tape, hb.output, hb.size, hb.block⟩) HB.out.size)⟩
end Go.Proofs.Ytfhcgnkjncfeiaa
