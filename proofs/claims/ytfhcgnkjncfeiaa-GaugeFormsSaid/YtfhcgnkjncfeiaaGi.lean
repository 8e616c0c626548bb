/- The walk of GaugeFalls. -/
import Derived.Test.YtfhcgnkjncfeiaaGh
namespace Go.Proofs.Ytfhcgnkjncfeiaa
open Go.ChangeShapes Go.WideShapes Go.RowKit Fl

theorem quoN_mono {a a' b : Nat} (h : a ≤ a') (ha : a' ≤ 9007199254740992) (hb : 1 ≤ b ∧ b ≤ 9007199254740992) : quoW a b ≤ quoW a' b := by
  rcases Nat.eq_or_lt_of_le h with e | e
  · rw [e]; exact Nat.le_refl _
  · obtain ⟨_, q2, _⟩ := quoN a b (by omega) hb
    obtain ⟨_, r2, _⟩ := quoN a' b ha hb
    exact q2.mono r2 (Nat.mul_lt_mul_of_pos_right (Nat.mul_lt_mul_of_pos_right e U_pos) (by omega))
theorem falls_facts (W L M : Int) (h1 : 0 ≤ W ∧ W < 1000000) (h2 : 0 ≤ L ∧ L < 1000000) (h3 : 0 ≤ M ∧ M < 1000) :
    decide (0 < ecmp (lifeF (W + M) L) (lifeF W L)) = false ∧ decide (ecmp (lifeF W L) 0 < 0) = false ∧ decide (ecmp (lifeF W L) 0 = 0) = decide (L ≤ W) ∧ decide (0 < ecmp (lifeF W L) 4607182418800017408) = false := by
  have r0 : rank 0 = 0 := rank_plain (by decide)
  have rO : rank 4607182418800017408 = 4607182418800017408 := rank_plain (r := 4607182418800017408) (by decide)
  obtain ⟨_, _, x3, _⟩ := life_fine W L
  obtain ⟨_, _, y3, _⟩ := life_fine (W + M) L
  have hO : ONE = 4607182418800017408 := rfl
  rcases life_cases W L with ⟨c, _⟩ | ⟨_, c, e⟩ | ⟨_, c, a, b, e, ea, eb, g1, g2, g3⟩
  · omega
  · have e2 : lifeF (W + M) L = 0 := by unfold lifeF; rw [if_neg (by omega), if_pos (by omega)]
    rw [e, e2]
    refine ⟨by decide, by decide, ?_, by kernel_rfl⟩
    rw [ecmp_self, decide_eq_decide]; omega
  · have hx : lifeF W L ≤ ONE := by rw [e]; exact parts_le_one g2 (by omega)
    have hx1 : 1 ≤ lifeF W L := by rw [e]; exact part_pos g1 g2 (by omega)
    have hy : lifeF (W + M) L ≤ lifeF W L := by
      rcases life_cases (W + M) L with ⟨c', _⟩ | ⟨_, _, e'⟩ | ⟨_, c', a', b', e', ea', eb', g1', g2', g3'⟩
      · omega
      · omega
      · rw [e, e']
        have hb : b' = b := by omega
        subst hb
        refine quoN_mono ?_ (by omega) (by omega)
        have := heldI_mono (a := L - max (W + M) 0) (b := L - max W 0) (by omega)
        omega
    refine ⟨?_, ?_, ?_, ?_⟩
    · refine decide_eq_false ?_; rw [ecmp_gt_iff, x3, y3]; omega
    · refine decide_eq_false ?_; rw [ecmp_lt_iff, x3, r0]; omega
    · rw [decide_eq_decide, ecmp_eq_iff, x3, r0]; omega
    · refine decide_eq_false ?_; rw [ecmp_gt_iff, x3, rO]; omega
/-- is one of the first k as bad? -/
def inB (z : Nat) (F : Nat → Nat) : Nat → Bool
  | 0 => false
  | k + 1 => inB z F k || decide (ecmp z (F k) = 0)
theorem inB_of (z : Nat) (F : Nat → Nat) (n j : Nat) (hj : j < n) (h : z = F j) : inB z F n = true := by
  induction n with
  | zero => omega
  | succ n ih =>
    unfold inB
    rcases Nat.eq_or_lt_of_le (Nat.lt_succ_iff.1 hj) with e | e
    · subst e; rw [h, ecmp_self]; simp
    · rw [ih e]; simp

set_option maxRecDepth 100000 in
set_option maxHeartbeats 12800000 in
theorem falls_some (a b c : Int) (v1 v2 : Value) (n m : Nat) (f g : Nat → Int) (w : World) (h1 : SlAt w v1 n f) (h2 : SlAt w v2 m g) (hg : ∀ j, j < m → g j ≤ 9223372036854775807) (hn : 1 ≤ n ∧ n ≤ 100) (hm : m ≤ 100) :
    Calls Try.prog 19 #[.int .i64 a, .int .i64 b, .int .i64 c, v1, v2] w fun e w' => e = .returned (.bool true) ∧ Below w.heap.size w w' := by
  have KW := Lib.hid (fun (w' : World) (hb : Below w.heap.size w w') => worst_any v1 v2 n m f g w' (h1.kept hb) (h2.kept hb) hg (by omega))
  have hwr := worst_rank f (limF m g) n
  obtain ⟨jw, hjw, ejw⟩ := worst_in f (limF m g) n (by omega)
  have wz : Wd (worstF f (limF m g) n) := by rw [ejw]; exact (life_fine _ _).1
  have hlim : ∀ j, limF m g j ≤ 9223372036854775807 := fun j => by
    unfold limF; split
    · exact hg j (by assumption)
    · omega
  generalize worstF f (limF m g) n = z at KW hwr ejw wz
  obtain ⟨F, hF⟩ : ∃ F : Nat → Nat, F = fun j => lifeF (f j) (limF m g j) := ⟨_, rfl⟩
  have hin : inB z F n = true := inB_of z F n jw hjw (by rw [hF]; exact ejw)
  have hz : ∀ k, k < n → decide (0 < ecmp z (F k)) = false := fun k hk => decide_eq_false (by rw [ecmp_gt_iff, hF]; have := hwr k hk; show ¬ rank (lifeF _ _) < rank z; omega)
  have hFj : ∀ j, lifeF (f j) (limF m g j) = F j := fun j => by rw [hF]
  have hFw : ∀ j, Wd (F j) := fun j => by rw [hF]; exact (life_fine _ _).1
  obtain ⟨ao1, cap1, rfl⟩ := h1.form
  obtain ⟨ao2, cap2, rfl⟩ := h2.form
  have ha0 : 0 ≤ IntKind.u64.wrap a := by rw [IntKind.wrap_u64]; omega
  have hb0 : 0 ≤ IntKind.u64.wrap b := by rw [IntKind.wrap_u64]; omega
  have hc0 : 0 ≤ IntKind.u64.wrap c := by rw [IntKind.wrap_u64]; omega
  obtain ⟨W, hW⟩ : ∃ q, (IntKind.u64.wrap a).tmod 1000000 = q := ⟨_, rfl⟩
  obtain ⟨L, hL⟩ : ∃ q, (IntKind.u64.wrap b).tmod 1000000 = q := ⟨_, rfl⟩
  obtain ⟨M, hM⟩ : ∃ q, (IntKind.u64.wrap c).tmod 1000 = q := ⟨_, rfl⟩
  have hWb : 0 ≤ W ∧ W < 1000000 := by rw [← hW]; exact ⟨Int.tmod_nonneg _ ha0, Int.tmod_lt_of_pos _ (by decide)⟩
  have hLb : 0 ≤ L ∧ L < 1000000 := by rw [← hL]; exact ⟨Int.tmod_nonneg _ hb0, Int.tmod_lt_of_pos _ (by decide)⟩
  have hMb : 0 ≤ M ∧ M < 1000 := by rw [← hM]; exact ⟨Int.tmod_nonneg _ hc0, Int.tmod_lt_of_pos _ (by decide)⟩
  have w1 : wrap64 W = W := by unfold wrap64; omega
  have w2 : wrap64 L = L := by unfold wrap64; omega
  have w3 : wrap64 M = M := by unfold wrap64; omega
  have w4 : IntKind.i64.wrap (W + M) = W + M := by rw [IntKind.wrap_i64]; omega
  obtain ⟨t1, t2, t3, t4⟩ := falls_facts W L M hWb hLb hMb
  obtain ⟨x1, _, _, _⟩ := life_fine W L
  obtain ⟨y1, _, _, _⟩ := life_fine (W + M) L
  have KX := fun w => Lib.hid (life_any W L w (by omega))
  have KY := fun w => Lib.hid (life_any (W + M) L w (by omega))
  generalize lifeF W L = x at t1 t2 t3 t4 x1 KX
  generalize lifeF (W + M) L = y at t1 y1 KY
  have d0 : Wd 0 := by unfold Wd; decide
  have d1 : Wd 4607182418800017408 := by unfold Wd; decide
  have q1 : decide ((n : Int) < 1) = false := decide_eq_false (by omega)
  have q2 : decide (100 < (n : Int)) = false := decide_eq_false (by omega)
  have q3 : decide (100 < (m : Int)) = false := decide_eq_false (by omega)
  have H1 := Lib.hid h1
  have H2 := Lib.hid h2
  have HZ := Lib.hid hz
  have HFj := Lib.hid hFj
  have HFw := Lib.hid hFw
  have HL := Lib.hid hlim
  have HN := Lib.hid hn
  have HIN := Lib.hid hin
  clear h1 h2 hg hn hm hwr hjw ejw hF hin hz hFj hFw hlim ha0 hb0 hc0 hWb hLb hMb
  cases hd : decide (L ≤ W)
  all_goals
    rw [hd] at t3
    go_enter Try.func19, Try.ntmps19
    go_wp2_with fail
    refine (KX _).out.mono ?_
    rintro _ _ ⟨rfl, e1, rfl⟩
    go_wp2_with fail
    refine (KY _).out.mono ?_
    rintro _ _ ⟨rfl, e2, rfl⟩
    go_wp2_with fail
    refine (cmp_any _ _ _ y1 x1).mono ?_
    rintro _ _ ⟨rfl, rfl⟩
    go_wp2_with fail
    refine (cmp_any _ _ _ x1 d0).mono ?_
    rintro _ _ ⟨rfl, rfl⟩
    go_wp2_with fail
    refine (same_any _ _ _ x1 d0).mono ?_
    rintro _ _ ⟨rfl, rfl⟩
    go_wp2_with fail
    refine (cmp_any _ _ _ x1 d1).mono ?_
    rintro _ _ ⟨rfl, rfl⟩
    go_wp2_with fail
    refine (KW.out _ (by first | exact below_drawn (Below.refl _ _) | exact below_drawn (below_drawn (Below.refl _ _)))).mono ?_
    rintro _ w3 ⟨rfl, hb3⟩
    have HB3 : Hid (Below w.heap.size w w3) := Lib.hid ⟨hb3.os, hb3.tape, hb3.output, hb3.size, hb3.block⟩
    clear hb3
    go_wp2_with fail
    go_loopw [14, 80] (fun s i wr => ∃ k : Nat, k ≤ n ∧ i = .int .i64 k ∧ s = .bool (inB z F k) ∧ Below w.heap.size w wr) (fun _ i _ => n - (intOf i).toNat)
    case atStart => exact ⟨0, by omega, rfl, rfl, HB3.out⟩
    case round =>
      obtain ⟨k, hk, rfl, rfl, ob⟩ := hrel
      have HB := Lib.hid ob
      clear ob
      by_cases hlt : k < n
      · have hltz : (k : Int) < (n : Int) := by omega
        have k0 : (0 : Int) ≤ (k : Int) := by omega
        have wk : IntKind.i64.wrap ((k : Int) + 1) = (k : Int) + 1 := by have := HN.out; rw [IntKind.wrap_i64]; omega
        rcases (H1.out.kept HB.out) with ⟨_, _, _, e⟩ | ⟨b1, o1, c1, e1, _, _, _, hI⟩
        · exfalso; omega
        obtain ⟨rfl, rfl⟩ : ao1 = some ⟨b1, o1, none⟩ ∧ cap1 = c1 := by simpa using e1
        have cJ := hI k hlt
        have hFk := HFj.out k
        have hlk := HL.out k
        have hzk := HZ.out k hlt
        have hwk := HFw.out k
        have hs : inB z F (k + 1) = (inB z F k || decide (ecmp z (F k) = 0)) := rfl
        have HLT := Lib.hid hlt
        clear hI e1 hlt hk
        by_cases hm : k < m
        · have hmz : (k : Int) < (m : Int) := by omega
          have dm : decide ((k : Int) < (m : Int)) = true := decide_eq_true hmz
          rcases (H2.out.kept HB.out) with ⟨_, _, _, e⟩ | ⟨b2, o2, c2, e2, _, _, _, hI⟩
          · exfalso; omega
          obtain ⟨rfl, rfl⟩ : ao2 = some ⟨b2, o2, none⟩ ∧ cap2 = c2 := by simpa using e2
          have cL := hI k hm
          have el : limF m g k = g k := by unfold limF; rw [if_pos hm]
          rw [el] at hFk hlk
          have LK := fun w => Lib.hid (life_any (f k) (g k) w hlk)
          rw [hFk] at LK
          clear hI e2 el hm hlk hFk
          cases hi : inB z F k
          all_goals
            rw [hi] at hs
            go_wp2_with fail
            refine (LK _).out.mono ?_
            rintro _ _ ⟨rfl, d, rfl⟩
            go_wp2_with fail
            refine (cmp_any _ _ _ wz hwk).mono ?_
            rintro _ _ ⟨rfl, rfl⟩
            go_wp2_with (go_at_call 30; refine (same_any _ _ _ wz hwk).mono ?_; rintro _ _ ⟨rfl, rfl⟩)
            exact ⟨⟨k + 1, HLT.out, by simp, by rw [hs]; simp, below_drawn HB.out⟩, by have := HLT.out; simp only [intOf]; omega⟩
        · have dm : decide ((k : Int) < (m : Int)) = false := decide_eq_false (by omega)
          have dmn : decide (k < m) = false := decide_eq_false hm
          have el : limF m g k = -1 := by unfold limF; rw [if_neg hm]
          rw [el] at hFk
          have LK := fun w => Lib.hid (life_any (f k) (-1) w (by decide))
          rw [hFk] at LK
          clear el hm hlk hFk
          cases hi : inB z F k
          all_goals
            rw [hi] at hs
            go_wp2_with fail
            refine (LK _).out.mono ?_
            rintro _ _ ⟨rfl, d, rfl⟩
            go_wp2_with fail
            refine (cmp_any _ _ _ wz hwk).mono ?_
            rintro _ _ ⟨rfl, rfl⟩
            go_wp2_with (go_at_call 30; refine (same_any _ _ _ wz hwk).mono ?_; rintro _ _ ⟨rfl, rfl⟩)
            exact ⟨⟨k + 1, HLT.out, by simp, by rw [hs]; simp, below_drawn HB.out⟩, by have := HLT.out; simp only [intOf]; omega⟩
      · have : k = n := by omega
        subst this
        have hltz : ¬ (k : Int) < (k : Int) := by omega
        have hi := HIN.out
        rw [hi]
        clear hk hlt hi
        go_wp2_with fail
        refine (awake22 _).mono ?_
        rintro _ w9 ⟨rfl, hb⟩
        go_wp2
        go_ret
        exact ⟨rfl, HB.out.trans (hb.mono HB.out.size)⟩

set_option maxRecDepth 100000 in
set_option maxHeartbeats 6400000 in
theorem falls_no (a b c : Int) (ao1 ao2 : Option Addr) (n m cap1 cap2 : Nat) (w : World) (h : n < 1 ∨ 100 < n ∨ 100 < m) :
    Calls Try.prog 19 #[.int .i64 a, .int .i64 b, .int .i64 c, .slice ao1 n cap1, .slice ao2 m cap2] w fun e w' => e = .returned (.bool true) ∧ Below w.heap.size w w' := by
  by_cases h1 : n < 1
  · obtain rfl : n = 0 := by omega
    clear h h1
    go_enter Try.func19, Try.ntmps19
    go_wp2_with fail
    refine (awake22 _).mono ?_
    rintro _ w9 ⟨rfl, hb⟩
    go_wp2
    go_ret
    exact ⟨rfl, hb⟩
  · have q1 : decide ((n : Int) < 1) = false := decide_eq_false (by omega)
    by_cases h2 : 100 < n
    · have q2 : decide (100 < (n : Int)) = true := decide_eq_true (by omega)
      clear h h1 h2
      go_enter Try.func19, Try.ntmps19
      go_wp2_with fail
      refine (awake22 _).mono ?_
      rintro _ w9 ⟨rfl, hb⟩
      go_wp2
      go_ret
      exact ⟨rfl, hb⟩
    · have q2 : decide (100 < (n : Int)) = false := decide_eq_false (by omega)
      have q3 : decide (100 < (m : Int)) = true := decide_eq_true (by omega)
      clear h h1 h2
      go_enter Try.func19, Try.ntmps19
      go_wp2_with fail
      refine (awake22 _).mono ?_
      rintro _ w9 ⟨rfl, hb⟩
      go_wp2
      go_ret
      exact ⟨rfl, hb⟩
theorem getD_le {l : List Int} (h : ∀ x ∈ l, (Lit.int .i64 x).wf = true) (j : Nat) (hj : j < l.length) : l.getD j 0 ≤ 9223372036854775807 := by
  rw [List.getD_eq_getElem?_getD, List.getElem?_eq_getElem hj]
  exact (wf_in (h _ (List.getElem_mem hj))).2
theorem gaugeFalls_walk (a b c : Int) (v1 : Value) (l1 : List Int) (v2 : Value) (l2 : List Int) (w : World) (s1 : IntSlice w v1 l1) (_ : ∀ x ∈ l1, (Lit.int .i64 x).wf = true) (s2 : IntSlice w v2 l2) (g2 : ∀ x ∈ l2, (Lit.int .i64 x).wf = true) (_ : (Lit.int .i64 a).wf = true) (_ : (Lit.int .i64 b).wf = true) (_ : (Lit.int .i64 c).wf = true) :
    Calls Try.prog 19 #[.int .i64 a, .int .i64 b, .int .i64 c, v1, v2] w fun e w' => e = .returned (.bool true) ∧ Below w.heap.size w w' := by
  by_cases h : l1.length < 1 ∨ 100 < l1.length ∨ 100 < l2.length
  · obtain ⟨ao1, cap1, rfl⟩ := s1.slAt.form
    obtain ⟨ao2, cap2, rfl⟩ := s2.slAt.form
    exact falls_no a b c ao1 ao2 _ _ cap1 cap2 w h
  · exact falls_some a b c v1 v2 _ _ _ _ w s1.slAt s2.slAt (fun j hj => getD_le g2 j hj) (by omega) (by omega)
end Go.Proofs.Ytfhcgnkjncfeiaa
