/- The walk of CountBatches. -/
import Derived.Test.YtommjfmglfjgjaaQ
import Derived.Test.YtommjfmglfjgjaaG
namespace Go.Proofs.Ytommjfmglfjgjaa
open Go.ChangeShapes Go.WideShapes Go.RowKit

theorem bits_one (n : Int) : bits .and .i64 n 1 = 0 ∨ bits .and .i64 n 1 = 1 := by
  have h1 : bits .and .i64 n 1 = IntKind.i64.wrap (((BitVec.ofInt 64 n &&& BitVec.ofInt 64 1).toNat : Nat) : Int) := rfl
  rw [h1, BitVec.toNat_and]
  have e : (BitVec.ofInt 64 1).toNat = 1 := by decide
  rw [e, Nat.and_one_is_mod]
  have : (BitVec.ofInt 64 n).toNat % 2 = 0 ∨ (BitVec.ofInt 64 n).toNat % 2 = 1 := by omega
  rcases this with h | h <;> rw [h]
  · exact Or.inl (by decide)
  · exact Or.inr (by decide)
theorem tmod_cast (i n : Nat) : (i : Int).tmod (n : Int) = ((i % n : Nat) : Int) := by
  rw [Int.tmod_eq_emod_of_nonneg (by omega)]; omega

/-- what holds at the head of each round -/
structure BatchAt (w : World) (base C g1 g2 cap1 cap2 : Nat) (B : Nat) (i m : Nat) (now kept : Nat → Int) : Prop where
  hc : CountIn w base C g1 g2 (B : Int) 2 cap1 cap2 now kept
  n0 : now 0 = i
  k0 : kept 0 = (i - i % B : Nat)
  k1 : 7 ≤ kept 1 ∧ kept 1 ≤ now 1 ∧ now 1 ≤ m

theorem batch_step {i B : Nat} (hB : 1 ≤ B) : (B ≤ i + 1 - (i - i % B) ↔ (i + 1) % B = 0) ∧ (B ≤ i + 1 - (i - i % B) → i + 1 - (i + 1) % B = i + 1) ∧ (¬ B ≤ i + 1 - (i - i % B) → i - i % B = i + 1 - (i + 1) % B) := by
  have h1 := Nat.mod_lt i (by omega : B > 0)
  have h2 : i % B ≤ i := Nat.mod_le i B
  have h3 : i + 1 - (i - i % B) = i % B + 1 := by omega
  rw [h3]
  by_cases h : i % B + 1 = B
  · have : (i + 1) % B = 0 := by rw [Nat.add_mod]; rcases Nat.eq_or_lt_of_le hB with e | e
                                 · rw [← e]; exact Nat.mod_one _
                                 · rw [Nat.mod_eq_of_lt e, h]; exact Nat.mod_self B
    rw [this]
    omega
  · have : (i + 1) % B = i % B + 1 := by
      rcases Nat.eq_or_lt_of_le hB with e | e
      · subst e; omega
      · rw [Nat.add_mod, Nat.mod_eq_of_lt e, Nat.mod_eq_of_lt]; omega
    rw [this]
    omega

section
variable {w : World} {base C g1 g2 cap1 cap2 B i m : Nat} {now kept : Nat → Int}
theorem BatchAt.drewN (h : BatchAt w base C g1 g2 cap1 cap2 B i m now kept) (k : Nat) : BatchAt (w.drewN k) base C g1 g2 cap1 cap2 B i m now kept := ⟨h.hc.drewN k, h.n0, h.k0, h.k1⟩
theorem BatchAt.more (h : BatchAt w base C g1 g2 cap1 cap2 B i m now kept) {m' : Nat} (hm : m ≤ m') : BatchAt w base C g1 g2 cap1 cap2 B i m' now kept := ⟨h.hc, h.n0, h.k0, h.k1.1, h.k1.2.1, by have := h.k1.2.2; omega⟩
theorem below_drewN' {w' w'' : World} {n : Nat} {b : Nat} (h : Below b w' w'') : Below b w' (w''.drewN n) := ⟨h.os, h.tape, h.output, h.size, h.block⟩
theorem batch_note0 (h : BatchAt w base C g1 g2 cap1 cap2 B i m now kept) (hB : 1 ≤ B ∧ B ≤ 100) (hi : i < 300) : Calls Try.prog 19 #[.pointer (some ⟨C, 0, none⟩), .int .i64 0] w fun e w' =>
    e = .returned (.tuple #[.int .i64 ((i : Int) + 1), .bool (decide ((i + 1) % B = 0))]) ∧ (∃ now' kept', BatchAt w' base C g1 g2 cap1 cap2 B (i + 1) m now' kept') ∧ Below base w w' := by
  have hm : i % B ≤ i := Nat.mod_le i B
  obtain ⟨s1, s2, s3⟩ := @batch_step i B hB.1
  have K : Calls Try.prog 19 #[.pointer (some ⟨C, 0, none⟩), .int .i64 0] w _ := note_in h.hc 0 (by decide) (by rw [h.n0, IntKind.wrap_i64]; omega) (by rw [h.n0, h.k0, IntKind.wrap_i64]; omega)
  refine K.mono ?_
  rintro e w' ⟨rfl, hc, hb⟩
  have hdue : ((B : Int) ≤ now 0 + 1 - kept 0) ↔ B ≤ i + 1 - (i - i % B) := by rw [h.n0, h.k0]; omega
  refine ⟨?_, ⟨_, _, hc, ?_, ?_, ?_⟩, hb⟩
  · rw [h.n0]
    have : decide ((B : Int) ≤ (i : Int) + 1 - kept 0) = decide ((i + 1) % B = 0) := by
      rw [decide_eq_decide, ← s1, ← hdue, h.n0]
    rw [this]
  · rw [updI_same, h.n0]; omega
  · by_cases hd : B ≤ i + 1 - (i - i % B)
    · rw [if_pos (hdue.2 hd), updI_same, h.n0, s2 hd]; omega
    · rw [if_neg (fun e => hd (hdue.1 e)), h.k0, s3 hd]
  · have e1 : ∀ x, updI now 0 x 1 = now 1 := fun x => rfl
    have e2 : ∀ x, updI kept 0 x 1 = kept 1 := fun x => rfl
    have := h.k1
    rw [e1]
    split
    · rw [e2]; omega
    · omega
theorem batch_note1 (h : BatchAt w base C g1 g2 cap1 cap2 B i m now kept) (hi : m < 1000) : Calls Try.prog 19 #[.pointer (some ⟨C, 0, none⟩), .int .i64 1] w fun e w' =>
    (∃ v, e = .returned v) ∧ (∃ now' kept', BatchAt w' base C g1 g2 cap1 cap2 B i (m + 1) now' kept') ∧ Below base w w' := by
  have hk := h.k1
  have K : Calls Try.prog 19 #[.pointer (some ⟨C, 0, none⟩), .int .i64 1] w _ := note_in h.hc 1 (by decide) (by rw [IntKind.wrap_i64]; omega) (by rw [IntKind.wrap_i64]; omega)
  refine K.mono ?_
  rintro e w' ⟨rfl, hc, hb⟩
  refine ⟨⟨_, rfl⟩, ⟨_, _, hc, ?_, ?_, ?_⟩, hb⟩
  · exact h.n0
  · split
    · exact h.k0
    · exact h.k0
  · rw [updI_same]
    split
    · rw [updI_same]; omega
    · omega
theorem batch_lag (h : BatchAt w base C g1 g2 cap1 cap2 B i m now kept) (hi : i < 301) (k : Nat) : Calls Try.prog 21 #[.pointer (some ⟨C, 0, none⟩), .int .i64 0] (w.drewN k) fun e w' =>
    e = .returned (.int .i64 ((i % B : Nat) : Int)) ∧ ∃ m, w' = (w.drewN k).drewN m := by
  have hm : i % B ≤ i := Nat.mod_le i B
  have K : Calls Try.prog 21 #[.pointer (some ⟨C, 0, none⟩), .int .i64 0] (w.drewN k) _ := lag_in (h.hc.drewN k) 0 (by decide) (by rw [h.n0, h.k0, IntKind.wrap_i64]; omega)
  refine K.mono ?_
  rintro e w' ⟨rfl, hm'⟩
  refine ⟨?_, hm'⟩
  have : now 0 - kept 0 = ((i % B : Nat) : Int) := by rw [h.n0, h.k0]; omega
  rw [this]
theorem batch_of (h : BatchAt w base C g1 g2 cap1 cap2 B i m now kept) : Calls Try.prog 20 #[.pointer (some ⟨C, 0, none⟩), .int .i64 0] w fun e w' => e = .returned (.int .i64 i) ∧ w = w' := by
  have K : Calls Try.prog 20 #[.pointer (some ⟨C, 0, none⟩), .int .i64 0] w _ := of_in h.hc 0 (by decide)
  refine K.mono ?_
  rintro e w' ⟨rfl, rfl⟩
  exact ⟨by rw [h.n0], rfl⟩
end

set_option maxHeartbeats 3200000 in
theorem countBatches_walk (a b : Int) (v : Value) (l : List Int) (w : World) (hs : IntSlice w v l) (_ : ∀ x ∈ l, (Lit.int .i64 x).wf = true) (_ : (Lit.int .i64 a).wf = true) (_ : (Lit.int .i64 b).wf = true) :
    Calls Try.prog 9 #[.int .i64 a, .int .i64 b, v] w fun e w' => e = .returned (.bool true) ∧ Below w.heap.size w w' := by
  have ha0 : 0 ≤ IntKind.u64.wrap a := by rw [IntKind.wrap_u64]; omega
  have hb0 : 0 ≤ IntKind.u64.wrap b := by rw [IntKind.wrap_u64]; omega
  obtain ⟨q, hq⟩ : ∃ q, (IntKind.u64.wrap a).tmod 100 = q := ⟨_, rfl⟩
  have hqb : 0 ≤ q ∧ q < 100 := by rw [← hq]; exact ⟨Int.tmod_nonneg _ ha0, Int.tmod_lt_of_pos _ (by decide)⟩
  obtain ⟨N, hN⟩ : ∃ N : Nat, (IntKind.u64.wrap b).tmod 300 = (N : Int) := ⟨((IntKind.u64.wrap b).tmod 300).toNat, by have := Int.tmod_nonneg 300 hb0; omega⟩
  have hNb : N < 300 := by have := Int.tmod_lt_of_pos (IntKind.u64.wrap b) (by decide : (0 : Int) < 300); omega
  obtain ⟨B, hB⟩ : ∃ B : Nat, 1 + q = (B : Int) := ⟨(1 + q).toNat, by omega⟩
  have hBb : 1 ≤ B ∧ B ≤ 100 := by omega
  have w1 : wrap64 q = q := by unfold wrap64; omega
  have w2 : wrap64 (B : Int) = B := by unfold wrap64; omega
  have w3 : wrap64 (N : Int) = N := by unfold wrap64; omega
  obtain ⟨ao, n, cap, hv, hn⟩ : ∃ ao n cap, v = .slice ao n cap ∧ n = l.length := by
    rcases hs with ⟨ao, cap, h, rfl⟩ | ⟨b, off, cap, h, _⟩
    · exact ⟨ao, 0, cap, h, rfl⟩
    · exact ⟨_, _, _, h, rfl⟩
  subst hv
  by_cases h50 : 50 < n
  · have d1 : decide (50 < (n : Int)) = true := decide_eq_true (by omega)
    clear hs hn h50 hBb hNb hqb ha0 hb0
    go_enter Try.func9, Try.ntmps9
    go_wp2_with (go_at_call 17; refine (awake10 _).mono ?_; rintro _ _ ⟨rfl, hb⟩)
    go_ret
    exact ⟨rfl, hb⟩
  · have d1 : decide (50 < (n : Int)) = false := decide_eq_false (by omega)
    have K : Calls Try.prog 18 #[.int .i64 B, .slice (some ⟨w.heap.size, 0, none⟩) 2 2] (w.alloc (.cells #[.int .i64 0, .int .i64 7] 3)) _ := new_any B [0, 7] w.heap.size 0 2 2 _ rfl (by decide) (by omega) (by omega) (by
      intro j hj
      rw [newA]
      have : j = 0 ∨ j = 1 := by omega
      rcases this with rfl | rfl <;> rfl)
    have K' := Lib.hid K
    have HS := Lib.hid hs
    have HN := Lib.hid hn
    have HBb := Lib.hid hBb
    have HNb := Lib.hid hNb
    clear K hs hn h50 hBb hNb hqb ha0 hb0
    go_enter Try.func9, Try.ntmps9
    go_wp2_with fail
    refine K'.out.mono ?_
    rintro _ wa ⟨C, rfl, hc, hbl⟩
    obtain ⟨g1, g2, cap1, cap2, h0⟩ := hc.countIn (by decide) rfl
    have hB1 := Lib.hid (((Below.refl w.heap.size w).alloc (Nat.le_refl _) _).trans (hbl.mono (by simp)))
    have hstart : ∃ now kept, BatchAt wa w.heap.size C g1 g2 cap1 cap2 B 0 7 now kept := by
      refine ⟨_, _, ⟨⟨h0.hC, h0.r1, h0.r2, h0.c1, h0.c2, h0.gg, ?_, ?_, ?_⟩, by decide, by simp; decide, by decide⟩⟩
      · have := h0.bC; simp at this; omega
      · have := h0.b1; simp at this; omega
      · have := h0.b2; simp at this; omega
    have HSt := Lib.hid hstart
    clear hc hbl h0 hstart K'
    go_wp2_with fail
    go_loopw [30] (fun iv wr => ∃ i : Nat, i ≤ N ∧ iv = .int .i64 i ∧ (∃ now kept, BatchAt wr w.heap.size C g1 g2 cap1 cap2 B i (7 + i) now kept) ∧ Below w.heap.size w wr) (fun iv _ => N - (intOf iv).toNat)
    case atStart => exact ⟨0, by omega, rfl, HSt.out, hB1.out⟩
    case round =>
      obtain ⟨i, hi, rfl, hh, hbl⟩ := hrel
      clear HSt
      have HH := Lib.hid hh
      have HB := Lib.hid hbl
      clear hh hbl
      by_cases hlt : i < N
      · have hltz : (i : Int) < (N : Int) := by omega
        have wi : IntKind.i64.wrap ((i : Int) + 1) = (i : Int) + 1 := by have := HNb.out; rw [IntKind.wrap_i64]; omega
        have HLT := Lib.hid hlt
        obtain ⟨r, hr⟩ : ∃ r, (i + 1) % B = r := ⟨_, rfl⟩
        have tm : ((i : Int) + 1).tmod (B : Int) = (r : Int) := by
          have := tmod_cast (i + 1) B
          rw [hr] at this
          simpa using this
        have bz : ¬ (B : Int) = 0 := by have := HBb.out; omega
        have bz' : ¬ B = 0 := by have := HBb.out; omega
        clear hlt hi
        have HR := Lib.hid hr
        rcases HS.out with ⟨ao', cap', e, rfl⟩ | ⟨bb, off, cap', e, l0, _, _, hcell⟩
        · have n0 : n = 0 := by simp at e; exact e.2.1
          have dn : ¬ (0 : Int) < (n : Int) := by omega
          have dn' : ¬ 0 < n := by omega
          have dn2 : decide ((n : Int) > 0) = false := decide_eq_false dn
          have dn3 := Lib.hid n0
          clear n0 e
          obtain ⟨now, kept, hx⟩ := HH.out
          have K0 := batch_note0 hx HBb.out (by have := HNb.out; have := HLT.out; omega)
          rw [hr] at K0
          have K0' := Lib.hid K0
          clear hx K0
          go_wp2_with fail
          refine K0'.out.mono ?_
          rintro _ w5 ⟨rfl, ⟨now5, kept5, h5⟩, hb5⟩
          have L := batch_lag h5 (by have := HNb.out; have := HLT.out; omega)
          rw [hr] at L
          have L' := Lib.hid L
          have H5 := Lib.hid h5
          have HB5 := Lib.hid (HB.out.trans hb5)
          clear h5 hb5 L K0'
          by_cases r0 : r = 0
          · have dr : decide (r = 0) = true := decide_eq_true r0
            have tm0 : ((i : Int) + 1).tmod (B : Int) = 0 := by rw [tm, r0]; rfl
            have L0 := L'.out
            rw [r0] at L0
            have L0' := Lib.hid L0
            have HTM := Lib.hid tm
            clear tm L0 r0
            go_wp2_with fail
            refine wp_region_quiet_lit (by kernel_rfl) (by kernel_rfl) ?_
            repeat (go_big_quiet_step ((go_at_call 21; exact Calls.quiet_of (L0'.out _))))
            refine wpQuiet_nil ?_
            intro _ hw'
            obtain ⟨nq, hw''⟩ := hw'
            subst hw''
            go_wp2
            exact ⟨⟨i + 1, HLT.out, by simp, ⟨_, _, (H5.out.drewN nq).more (by omega)⟩, below_drewN' HB5.out⟩, by have := HLT.out; simp only [intOf]; omega⟩
          · have dr : decide (r = 0) = false := decide_eq_false r0
            have ri : ¬ (r : Int) = 0 := by omega
            have rb : ((r : Int) == 0) = false := by simp; exact r0
            go_wp2_with fail
            refine wp_region_quiet_lit (by kernel_rfl) (by kernel_rfl) ?_
            repeat (go_big_quiet_step ((go_at_call 21; exact Calls.quiet_of (L'.out _))))
            refine wpQuiet_nil ?_
            intro _ hw'
            obtain ⟨nq, hw''⟩ := hw'
            subst hw''
            go_wp2
            exact ⟨⟨i + 1, HLT.out, by simp, ⟨_, _, (H5.out.drewN nq).more (by omega)⟩, below_drewN' HB5.out⟩, by have := HLT.out; simp only [intOf]; omega⟩
        · obtain ⟨rfl, hnl, rfl⟩ : ao = some ⟨bb, off, none⟩ ∧ n = l.length ∧ cap = cap' := by simpa using e
          have dn : (0 : Int) < (n : Int) := by omega
          have dn' : 0 < n := by omega
          have dn2 : decide ((n : Int) > 0) = true := decide_eq_true dn
          have nz : ¬ (n : Int) = 0 := by omega
          have nz' : ¬ n = 0 := by omega
          have ti := tmod_cast i n
          obtain ⟨jj, hjj⟩ : ∃ jj, i % n = jj := ⟨_, rfl⟩
          have hjn : jj < n := by rw [← hjj]; exact Nat.mod_lt i dn'
          rw [hjj] at ti
          have cJ := hcell jj (by omega)
          have cJ' : cellAt (obj wr bb) (off + jj) = some (.int .i64 (l.getD jj 0)) := by
            obtain ⟨o, ho⟩ : ∃ o, obj w bb = some o := by
              cases h2 : obj w bb with
              | none => rw [h2] at cJ; simp [cellAt] at cJ
              | some o => exact ⟨o, rfl⟩
            rw [keep HB.out ho, ← ho]; exact cJ
          have j0 : (0 : Int) ≤ (jj : Int) := by omega
          have j1 : (jj : Int) < (n : Int) := by omega
          generalize l.getD jj 0 = x at cJ'
          have hbit := bits_one x
          clear hcell cJ e hjj hnl l0
          rcases hbit with hbit | hbit
          · obtain ⟨now, kept, hx⟩ := HH.out
            have K0 := batch_note0 hx HBb.out (by have := HNb.out; have := HLT.out; omega)
            rw [hr] at K0
            have K0' := Lib.hid K0
            clear hx K0
            go_wp2_with fail
            refine K0'.out.mono ?_
            rintro _ w5 ⟨rfl, ⟨now5, kept5, h5⟩, hb5⟩
            have L := batch_lag h5 (by have := HNb.out; have := HLT.out; omega)
            rw [hr] at L
            have L' := Lib.hid L
            have H5 := Lib.hid h5
            have HB5 := Lib.hid (HB.out.trans hb5)
            clear h5 hb5 L K0'
            by_cases r0 : r = 0
            · have dr : decide (r = 0) = true := decide_eq_true r0
              have tm0 : ((i : Int) + 1).tmod (B : Int) = 0 := by rw [tm, r0]; rfl
              have L0 := L'.out
              rw [r0] at L0
              have L0' := Lib.hid L0
              have HTM := Lib.hid tm
              clear tm L0 r0
              go_wp2_with fail
              refine wp_region_quiet_lit (by kernel_rfl) (by kernel_rfl) ?_
              repeat (go_big_quiet_step ((go_at_call 21; exact Calls.quiet_of (L0'.out _))))
              refine wpQuiet_nil ?_
              intro _ hw'
              obtain ⟨nq, hw''⟩ := hw'
              subst hw''
              go_wp2
              exact ⟨⟨i + 1, HLT.out, by simp, ⟨_, _, (H5.out.drewN nq).more (by omega)⟩, below_drewN' HB5.out⟩, by have := HLT.out; simp only [intOf]; omega⟩
            · have dr : decide (r = 0) = false := decide_eq_false r0
              have ri : ¬ (r : Int) = 0 := by omega
              have rb : ((r : Int) == 0) = false := by simp; exact r0
              go_wp2_with fail
              refine wp_region_quiet_lit (by kernel_rfl) (by kernel_rfl) ?_
              repeat (go_big_quiet_step ((go_at_call 21; exact Calls.quiet_of (L'.out _))))
              refine wpQuiet_nil ?_
              intro _ hw'
              obtain ⟨nq, hw''⟩ := hw'
              subst hw''
              go_wp2
              exact ⟨⟨i + 1, HLT.out, by simp, ⟨_, _, (H5.out.drewN nq).more (by omega)⟩, below_drewN' HB5.out⟩, by have := HLT.out; simp only [intOf]; omega⟩
          · obtain ⟨now, kept, hx⟩ := HH.out
            have K1 := Lib.hid (batch_note1 hx (by have := HNb.out; have := HLT.out; omega))
            clear hx
            go_wp2_with fail
            refine K1.out.mono ?_
            rintro _ w4 ⟨⟨v1, rfl⟩, h4, hb4⟩
            have HH4 := Lib.hid h4
            have HB4 := Lib.hid (HB.out.trans hb4)
            clear h4 hb4 cJ' K1
            obtain ⟨now, kept, hx⟩ := HH4.out
            have K0 := batch_note0 hx HBb.out (by have := HNb.out; have := HLT.out; omega)
            rw [hr] at K0
            have K0' := Lib.hid K0
            clear hx K0
            go_wp2_with fail
            refine K0'.out.mono ?_
            rintro _ w5 ⟨rfl, ⟨now5, kept5, h5⟩, hb5⟩
            have L := batch_lag h5 (by have := HNb.out; have := HLT.out; omega)
            rw [hr] at L
            have L' := Lib.hid L
            have H5 := Lib.hid h5
            have HB5 := Lib.hid (HB4.out.trans hb5)
            clear h5 hb5 L K0'
            by_cases r0 : r = 0
            · have dr : decide (r = 0) = true := decide_eq_true r0
              have tm0 : ((i : Int) + 1).tmod (B : Int) = 0 := by rw [tm, r0]; rfl
              have L0 := L'.out
              rw [r0] at L0
              have L0' := Lib.hid L0
              have HTM := Lib.hid tm
              clear tm L0 r0
              go_wp2_with fail
              refine wp_region_quiet_lit (by kernel_rfl) (by kernel_rfl) ?_
              repeat (go_big_quiet_step ((go_at_call 21; exact Calls.quiet_of (L0'.out _))))
              refine wpQuiet_nil ?_
              intro _ hw'
              obtain ⟨nq, hw''⟩ := hw'
              subst hw''
              go_wp2
              exact ⟨⟨i + 1, HLT.out, by simp, ⟨_, _, (H5.out.drewN nq).more (by omega)⟩, below_drewN' HB5.out⟩, by have := HLT.out; simp only [intOf]; omega⟩
            · have dr : decide (r = 0) = false := decide_eq_false r0
              have ri : ¬ (r : Int) = 0 := by omega
              have rb : ((r : Int) == 0) = false := by simp; exact r0
              go_wp2_with fail
              refine wp_region_quiet_lit (by kernel_rfl) (by kernel_rfl) ?_
              repeat (go_big_quiet_step ((go_at_call 21; exact Calls.quiet_of (L'.out _))))
              refine wpQuiet_nil ?_
              intro _ hw'
              obtain ⟨nq, hw''⟩ := hw'
              subst hw''
              go_wp2
              exact ⟨⟨i + 1, HLT.out, by simp, ⟨_, _, (H5.out.drewN nq).more (by omega)⟩, below_drewN' HB5.out⟩, by have := HLT.out; simp only [intOf]; omega⟩
      · have : i = N := by omega
        subst this
        have hltz : ¬ (i : Int) < (i : Int) := by omega
        obtain ⟨now, kept, hq2⟩ := HH.out
        have KO := Lib.hid (batch_of hq2)
        clear hq2
        go_wp2_with (first | (go_at_call 20; refine KO.out.mono ?_; rintro _ _ ⟨rfl, rfl⟩) | (go_at_call 17; refine (awake10 _).mono ?_; rintro _ _ ⟨rfl, hb⟩))
        go_ret
        exact ⟨rfl, HB.out.trans (hb.mono HB.out.size)⟩
end Go.Proofs.Ytommjfmglfjgjaa
