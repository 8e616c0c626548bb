/- slices.symMergeCmpFunc, where one side is of one number. -/
import Derived.Test.YtfhcgnkjncfeiaaSc
namespace Go.Proofs.Ytfhcgnkjncfeiaa
open Go.ChangeShapes Go.WideShapes Go.RowKit Fl

def sgl (R : Nat → Nat) (a k : Nat) : Nat → Nat := fun x => if a ≤ x ∧ x < k then R (x + 1) else if x = k then R a else R x
theorem sgl_start (R : Nat → Nat) (a : Nat) : sgl R a a = R := by
  funext x; unfold sgl
  (repeat' split) <;> first | rfl | (exfalso; omega) | (congr 1; omega)
theorem sgl_step (R : Nat → Nat) (a k : Nat) (h : a ≤ k) : swp (sgl R a k) k (k + 1) = sgl R a (k + 1) := by
  funext x; unfold swp sgl
  (repeat' split) <;> first | rfl | (exfalso; omega) | (congr 1; omega)
theorem sgl_ord {R : Nat → Nat} {a b i : Nat} (h : Ordd R (a + 1) b) (h1 : a + 1 ≤ i) (h2 : i ≤ b) (h3 : ∀ x, a + 1 ≤ x → x < i → rank (R x) < rank (R a)) (h4 : ∀ x, i ≤ x → x < b → rank (R a) ≤ rank (R x)) : Ordd (sgl R a (i - 1)) a b := by
  have key : ∀ x, a ≤ x → x < b → (x < i - 1 ∧ sgl R a (i - 1) x = R (x + 1)) ∨ (x = i - 1 ∧ sgl R a (i - 1) x = R a) ∨ (i ≤ x ∧ sgl R a (i - 1) x = R x) := by
    intro x hx hxb
    unfold sgl
    by_cases c1 : x < i - 1
    · left; rw [if_pos (by omega)]; exact ⟨c1, rfl⟩
    · by_cases c2 : x = i - 1
      · right; left; rw [if_neg (by omega), if_pos c2]; exact ⟨c2, rfl⟩
      · right; right; rw [if_neg (by omega), if_neg c2]; exact ⟨by omega, rfl⟩
  intro p q hp hpq hq
  rcases key p hp (by omega) with ⟨c1, e1⟩ | ⟨c1, e1⟩ | ⟨c1, e1⟩ <;> rcases key q (by omega) hq with ⟨c2, e2⟩ | ⟨c2, e2⟩ | ⟨c2, e2⟩ <;> rw [e1, e2]
  · exact h.le (by omega) (by omega) (by omega)
  · have := h3 (p + 1) (by omega) (by omega); omega
  · have := h3 (p + 1) (by omega) (by omega); have := h4 q c2 hq; omega
  · omega
  · omega
  · exact h4 q c2 hq
  · omega
  · omega
  · exact h.le (by omega) (by omega) hq
def sdr (R : Nat → Nat) (m k : Nat) : Nat → Nat := fun x => if x = k then R m else if k < x ∧ x ≤ m then R (x - 1) else R x
theorem sdr_start (R : Nat → Nat) (m : Nat) : sdr R m m = R := by
  funext x; unfold sdr
  (repeat' split) <;> first | rfl | (exfalso; omega) | (congr 1; omega)
theorem sdr_step (R : Nat → Nat) (m k : Nat) (h1 : 1 ≤ k) (h : k ≤ m) : swp (sdr R m k) k (k - 1) = sdr R m (k - 1) := by
  funext x; unfold swp sdr
  (repeat' split) <;> first | rfl | (exfalso; omega) | (congr 1; omega)
theorem sdr_ord {R : Nat → Nat} {a m i : Nat} (h : Ordd R a m) (h1 : a ≤ i) (h2 : i ≤ m) (h3 : ∀ x, a ≤ x → x < i → rank (R x) ≤ rank (R m)) (h4 : ∀ x, i ≤ x → x < m → rank (R m) < rank (R x)) : Ordd (sdr R m i) a (m + 1) := by
  have key : ∀ x, a ≤ x → x < m + 1 → (x < i ∧ sdr R m i x = R x) ∨ (x = i ∧ sdr R m i x = R m) ∨ (i < x ∧ sdr R m i x = R (x - 1)) := by
    intro x hx hxb
    unfold sdr
    by_cases c1 : x < i
    · left; rw [if_neg (by omega), if_neg (by omega)]; exact ⟨c1, rfl⟩
    · by_cases c2 : x = i
      · right; left; rw [if_pos c2]; exact ⟨c2, rfl⟩
      · right; right; rw [if_neg c2, if_pos (by omega)]; exact ⟨by omega, rfl⟩
  intro p q hp hpq hq
  rcases key p hp (by omega) with ⟨c1, e1⟩ | ⟨c1, e1⟩ | ⟨c1, e1⟩ <;> rcases key q (by omega) hq with ⟨c2, e2⟩ | ⟨c2, e2⟩ | ⟨c2, e2⟩ <;> rw [e1, e2]
  · exact h.le hp (by omega) (by omega)
  · exact h3 p hp c1
  · have := h3 p hp c1; have := h4 (q - 1) (by omega) (by omega); omega
  · omega
  · omega
  · have := h4 (q - 1) (by omega) (by omega); omega
  · omega
  · omega
  · exact h.le (by omega) (by omega) (by omega)

theorem half_wrap (S q : Nat) (h : q = S / 2) (hS : S < 1000000) : wrap64 (IntKind.u64.wrap (S : Int) / 2) = (q : Int) := by
  have e : IntKind.u64.wrap (S : Int) = (S : Int) := by rw [IntKind.wrap_u64]; omega
  rw [e]
  clear e
  have : (S : Int) / 2 = (q : Int) := by omega
  rw [this]
  unfold wrap64; omega
set_option maxRecDepth 100000 in
set_option maxHeartbeats 6400000 in
/-- where the left side is of one number -/
theorem sym_left {w w0 : World} {base g n : Nat} {R : Nat → Nat} (h : RowG w w0 base g n R) (hR : ∀ j, Wd (R j)) (cap a m b : Nat) (ham : m = a + 1) (hmb : m < b) (hbn : b ≤ n) (hn : n ≤ 100000) (o2 : Ordd R m b) :
    Calls Try.prog 92 #[.slice (some ⟨g, 0, none⟩) n cap, .int .i64 a, .int .i64 m, .int .i64 b, CMPF] w fun e w' => e = .returned (.tuple #[]) ∧ ∃ R', RowG w' w0 base g n R' ∧ Seg a b n R R' ∧ Ordd R' a b := by
  have H := Lib.hid h
  have HW := Lib.hid hR
  have HO := Lib.hid o2
  have HH := Lib.hid (show m = a + 1 ∧ m < b ∧ b ≤ n ∧ n ≤ 100000 from ⟨ham, hmb, hbn, hn⟩)
  have w1 : IntKind.i64.wrap ((m : Int) - (a : Int)) = 1 := by rw [IntKind.wrap_i64]; omega
  have a0 : (0 : Int) ≤ (a : Int) := Int.natCast_nonneg a
  have a1 : (a : Int) < (n : Int) := by omega
  clear h hR ham hmb hbn hn o2
  unfold CMPF
  go_enter Try.func92, Try.ntmps92
  go_wp2_with fail
  go_loopw [10, 11] (fun iv jv wr => ∃ i j : Nat, iv = .int .i64 i ∧ jv = .int .i64 j ∧ m ≤ i ∧ i ≤ j ∧ j ≤ b ∧ RowG wr w0 base g n R ∧ (∀ x, m ≤ x → x < i → rank (R x) < rank (R a)) ∧ (∀ x, j ≤ x → x < b → rank (R a) ≤ rank (R x))) (fun iv jv _ => (intOf jv).toNat - (intOf iv).toNat)
  case atStart => exact ⟨m, b, rfl, rfl, Nat.le_refl _, by have := HH.out; omega, Nat.le_refl _, H.out, fun x h1 h2 => by omega, fun x h1 h2 => by omega⟩
  case round =>
    obtain ⟨i, j, rfl, rfl, i1, i2, i3, hr, s1, s2⟩ := hrel
    have HR := Lib.hid hr
    obtain ⟨ca, _⟩ := hr.cell a (by have := HH.out; omega)
    clear hr
    have HS1 := Lib.hid s1
    have HS2 := Lib.hid s2
    have HI := Lib.hid (show m ≤ i ∧ i ≤ j ∧ j ≤ b from ⟨i1, i2, i3⟩)
    clear s1 s2
    by_cases hlt : i < j
    · have hltz : (i : Int) < (j : Int) := by omega
      obtain ⟨S, hS⟩ : ∃ S, S = i + j := ⟨_, rfl⟩
      obtain ⟨q, hq⟩ : ∃ q, q = S / 2 := ⟨_, rfl⟩
      have hb := HH.out
      have wS : IntKind.i64.wrap ((i : Int) + (j : Int)) = (S : Int) := by rw [IntKind.wrap_i64]; omega
      have wq : IntKind.i64.wrap ((q : Int) + 1) = ((q + 1 : Nat) : Int) := by rw [IntKind.wrap_i64]; omega
      have q0 : (0 : Int) ≤ (q : Int) := Int.natCast_nonneg q
      have q1 : (q : Int) < (n : Int) := by omega
      have hqi : i ≤ q ∧ q < j := by omega
      have qn : q < n := by omega
      obtain ⟨cq, _⟩ := HR.out.cell q qn
      have KC := cmp_same (R q) (R a) (HW.out q) (HW.out a) wr
      have wU := Lib.hid (half_wrap S q hq (by omega))
      have HQ := Lib.hid hqi
      by_cases hl : rank (R q) < rank (R a)
      · have dc : decide (ecmp (R q) (R a) < 0) = true := decide_eq_true ((ecmp_lt_iff _ _).2 hl)
        have HN := Lib.hid (show ∀ x, m ≤ x → x < q + 1 → rank (R x) < rank (R a) from fun x h1 h2 => by
          have := HO.out.le h1 (show x ≤ q by omega) (show q < b by omega); omega)
        have KC := Lib.hid KC
        clear hlt i1 i2 i3 hS hq hb hqi hl qn
        obtain ⟨q', hq'⟩ : ∃ q', q + 1 = q' := ⟨_, rfl⟩
        rw [hq'] at wq HN
        have HQ' := Lib.hid hq'
        clear hq'
        have wU := wU.out
        go_wp2_with fail
        refine wp_region_quiet_lit (by kernel_rfl) (by kernel_rfl) ?_
        repeat (go_big_quiet_step ((go_at_call 36; exact Calls.quiet_of_same (KC.out _))))
        refine wpQuiet_nil ?_
        intro _ hw'
        obtain ⟨nq, hw''⟩ := hw'
        subst hw''
        go_wp2_with fail
        clear wU
        exact ⟨⟨q', j, rfl, rfl, by have := HQ.out; have := HQ'.out; have := HI.out; omega, by have := HQ.out; have := HQ'.out; omega, HI.out.2.2, HR.out.drewN nq, HN.out, HS2.out⟩, by have := HQ.out; have := HQ'.out; simp only [intOf]; omega⟩
      · have dc : decide (ecmp (R q) (R a) < 0) = false := decide_eq_false (fun e => hl ((ecmp_lt_iff _ _).1 e))
        have HN := Lib.hid (show ∀ x, q ≤ x → x < b → rank (R a) ≤ rank (R x) from fun x h1 h2 => by
          have := HO.out.le (show m ≤ q by omega) h1 h2; omega)
        have KC := Lib.hid KC
        clear hlt i1 i2 i3 hS hq hb hqi hl qn
        have wU := wU.out
        go_wp2_with fail
        refine wp_region_quiet_lit (by kernel_rfl) (by kernel_rfl) ?_
        repeat (go_big_quiet_step ((go_at_call 36; exact Calls.quiet_of_same (KC.out _))))
        refine wpQuiet_nil ?_
        intro _ hw'
        obtain ⟨nq, hw''⟩ := hw'
        subst hw''
        go_wp2_with fail
        rw [wU]
        clear wU
        exact ⟨⟨i, q, rfl, rfl, HI.out.1, HQ.out.1, by have := HQ.out; have := HI.out; omega, HR.out.drewN nq, HS1.out, HN.out⟩, by have := HQ.out; simp only [intOf]; omega⟩
    · have hij : i = j := by omega
      subst hij
      have hltz : ¬ (i : Int) < (i : Int) := by omega
      obtain ⟨I, hI⟩ : ∃ I, I = i - 1 := ⟨_, rfl⟩
      have hb := HH.out
      have wI : IntKind.i64.wrap ((i : Int) - 1) = (I : Int) := by rw [IntKind.wrap_i64]; omega
      have HL := Lib.hid (show a ≤ I ∧ I < b ∧ I + 1 ≤ n from by omega)
      have HE := Lib.hid (show Ordd (sgl R a I) a b from by rw [hI]; exact sgl_ord (by rw [← hb.1]; exact HO.out) (by omega) (by omega) (fun x h1 h2 => HS1.out x (by omega) h2) HS2.out)
      clear hlt i1 i2 i3 hI hb HS1 HS2
      go_wp2_with fail
      go_loopw [13] (fun kv wr => ∃ k : Nat, a ≤ k ∧ k ≤ I ∧ kv = .int .i64 k ∧ RowG wr w0 base g n (sgl R a k) ∧ Seg a b n R (sgl R a k)) (fun kv _ => I - (intOf kv).toNat)
      case atStart => exact ⟨a, Nat.le_refl _, HL.out.1, rfl, by rw [sgl_start]; exact HR.out, by rw [sgl_start]; exact Seg.refl ..⟩
      case round =>
        obtain ⟨k, k1, k2, rfl, hr, hs⟩ := hrel
        by_cases hlt : k < I
        · have hltz : (k : Int) < (I : Int) := by omega
          have hh := HL.out
          have hh2 := HH.out
          obtain ⟨q, hq⟩ : ∃ q, k + 1 = q := ⟨_, rfl⟩
          have wq : IntKind.i64.wrap ((k : Int) + 1) = (q : Int) := by rw [IntKind.wrap_i64]; omega
          have k0 : (0 : Int) ≤ (k : Int) := Int.natCast_nonneg k
          have q0 : (0 : Int) ≤ (q : Int) := Int.natCast_nonneg q
          have kn : k < n := by omega
          have qn : q < n := by omega
          have k1z : (k : Int) < (n : Int) := by omega
          have q1z : (q : Int) < (n : Int) := by omega
          obtain ⟨ck, ik⟩ := hr.cell k kn
          obtain ⟨cq, iq⟩ := hr.cell q qn
          obtain ⟨ckq, ikq⟩ := hr.cell_map k q (by omega) qn (.float .f64 (sgl R a k q))
          obtain ⟨cqk, iqk⟩ := hr.cell_map q k (by omega) kn (.float .f64 (sgl R a k k))
          have hsw := hr.swap k q kn qn
          have hsg : Seg a b n (sgl R a k) (swp (sgl R a k) k q) := Seg.swap _ k q (by omega) (by omega) (by omega)
          have hst : swp (sgl R a k) k q = sgl R a q := by rw [← hq]; exact sgl_step R a k k1
          rw [hst] at hsw hsg
          have HSW := Lib.hid hsw
          have HSG := Lib.hid (hs.trans hsg)
          have HQ := Lib.hid (show a ≤ q ∧ q ≤ I ∧ k + 1 = q by omega)
          clear hr hs hq hlt hh hh2 hsw hsg hst kn qn k1 k2
          go_wp2_with fail
          go_region
          all_goals go_wp2
          exact ⟨⟨q, HQ.out.1, HQ.out.2.1, rfl, HSW.out.drew, HSG.out⟩, by have := HQ.out; simp only [intOf]; omega⟩
        · have : k = I := by omega
          subst this
          have hltz : ¬ (k : Int) < (k : Int) := by omega
          have HR := Lib.hid hr
          have HS := Lib.hid hs
          clear hr hs hlt k1 k2
          go_wp2
          refine bodyPost_ret (results_none rfl _ _ _) rfl ?_
          exact ⟨rfl, _, HR.out, HS.out, HE.out⟩
set_option maxRecDepth 100000 in
set_option maxHeartbeats 6400000 in
/-- where the right side is of one number -/
theorem sym_right {w w0 : World} {base g n : Nat} {R : Nat → Nat} (h : RowG w w0 base g n R) (hR : ∀ j, Wd (R j)) (cap a m b : Nat) (ham : a < m) (hma : m ≠ a + 1) (hmb : b = m + 1) (hbn : b ≤ n) (hn : n ≤ 100000) (o2 : Ordd R a m) :
    Calls Try.prog 92 #[.slice (some ⟨g, 0, none⟩) n cap, .int .i64 a, .int .i64 m, .int .i64 b, CMPF] w fun e w' => e = .returned (.tuple #[]) ∧ ∃ R', RowG w' w0 base g n R' ∧ Seg a b n R R' ∧ Ordd R' a b := by
  have H := Lib.hid h
  have HW := Lib.hid hR
  have HO := Lib.hid o2
  have HH := Lib.hid (show a < m ∧ b = m + 1 ∧ b ≤ n ∧ n ≤ 100000 from ⟨ham, hmb, hbn, hn⟩)
  obtain ⟨D, hD⟩ : ∃ D, D = m - a := ⟨_, rfl⟩
  have w1 : IntKind.i64.wrap ((m : Int) - (a : Int)) = (D : Int) := by rw [IntKind.wrap_i64]; omega
  have e1 : ((D : Int) == 1) = false := by simp; omega
  have e2 : (D == 1) = false := by simp; omega
  have e3 : decide (D = 1) = false := decide_eq_false (by omega)
  have w2 : IntKind.i64.wrap ((b : Int) - (m : Int)) = 1 := by rw [IntKind.wrap_i64]; omega
  have m0 : (0 : Int) ≤ (m : Int) := Int.natCast_nonneg m
  have m1 : (m : Int) < (n : Int) := by omega
  clear h hR ham hma hmb hbn hn o2 hD
  unfold CMPF
  go_enter Try.func92, Try.ntmps92
  go_wp2_with fail
  go_loopw [14, 15] (fun iv jv wr => ∃ i j : Nat, iv = .int .i64 i ∧ jv = .int .i64 j ∧ a ≤ i ∧ i ≤ j ∧ j ≤ m ∧ RowG wr w0 base g n R ∧ (∀ x, a ≤ x → x < i → rank (R x) ≤ rank (R m)) ∧ (∀ x, j ≤ x → x < m → rank (R m) < rank (R x))) (fun iv jv _ => (intOf jv).toNat - (intOf iv).toNat)
  case atStart => exact ⟨a, m, rfl, rfl, Nat.le_refl _, by have := HH.out; omega, Nat.le_refl _, H.out, fun x h1 h2 => by omega, fun x h1 h2 => by omega⟩
  case round =>
    obtain ⟨i, j, rfl, rfl, i1, i2, i3, hr, s1, s2⟩ := hrel
    have HR := Lib.hid hr
    obtain ⟨cm, _⟩ := hr.cell m (by have := HH.out; omega)
    clear hr
    have HS1 := Lib.hid s1
    have HS2 := Lib.hid s2
    have HI := Lib.hid (show a ≤ i ∧ i ≤ j ∧ j ≤ m from ⟨i1, i2, i3⟩)
    clear s1 s2
    by_cases hlt : i < j
    · have hltz : (i : Int) < (j : Int) := by omega
      obtain ⟨S, hS⟩ : ∃ S, S = i + j := ⟨_, rfl⟩
      obtain ⟨q, hq⟩ : ∃ q, q = S / 2 := ⟨_, rfl⟩
      have hb := HH.out
      have wS : IntKind.i64.wrap ((i : Int) + (j : Int)) = (S : Int) := by rw [IntKind.wrap_i64]; omega
      have wq : IntKind.i64.wrap ((q : Int) + 1) = ((q + 1 : Nat) : Int) := by rw [IntKind.wrap_i64]; omega
      have q0 : (0 : Int) ≤ (q : Int) := Int.natCast_nonneg q
      have q1 : (q : Int) < (n : Int) := by omega
      have hqi : i ≤ q ∧ q < j := by omega
      have qn : q < n := by omega
      obtain ⟨cq, _⟩ := HR.out.cell q qn
      have KC := cmp_same (R m) (R q) (HW.out m) (HW.out q) wr
      have wU := Lib.hid (half_wrap S q hq (by omega))
      have HQ := Lib.hid hqi
      by_cases hl : ¬ rank (R m) < rank (R q)
      · have dc : decide (ecmp (R m) (R q) < 0) = false := decide_eq_false (fun e => hl ((ecmp_lt_iff _ _).1 e))
        have HN := Lib.hid (show ∀ x, a ≤ x → x < q + 1 → rank (R x) ≤ rank (R m) from fun x h1 h2 => by
          have := HO.out.le h1 (show x ≤ q by omega) (show q < m by omega); omega)
        have KC := Lib.hid KC
        clear hlt i1 i2 i3 hS hq hb hqi hl qn
        obtain ⟨q', hq'⟩ : ∃ q', q + 1 = q' := ⟨_, rfl⟩
        rw [hq'] at wq HN
        have HQ' := Lib.hid hq'
        clear hq'
        have wU := wU.out
        go_wp2_with fail
        refine wp_region_quiet_lit (by kernel_rfl) (by kernel_rfl) ?_
        repeat (go_big_quiet_step ((go_at_call 36; exact Calls.quiet_of_same (KC.out _))))
        refine wpQuiet_nil ?_
        intro _ hw'
        obtain ⟨nq, hw''⟩ := hw'
        subst hw''
        go_wp2_with fail
        clear wU
        exact ⟨⟨q', j, rfl, rfl, by have := HQ.out; have := HQ'.out; have := HI.out; omega, by have := HQ.out; have := HQ'.out; omega, HI.out.2.2, HR.out.drewN nq, HN.out, HS2.out⟩, by have := HQ.out; have := HQ'.out; simp only [intOf]; omega⟩
      · have dc : decide (ecmp (R m) (R q) < 0) = true := decide_eq_true ((ecmp_lt_iff _ _).2 (Classical.not_not.1 hl))
        have HN := Lib.hid (show ∀ x, q ≤ x → x < m → rank (R m) < rank (R x) from fun x h1 h2 => by
          have := HO.out.le (show a ≤ q by omega) h1 h2; omega)
        have KC := Lib.hid KC
        clear hlt i1 i2 i3 hS hq hb hqi hl qn
        have wU := wU.out
        go_wp2_with fail
        refine wp_region_quiet_lit (by kernel_rfl) (by kernel_rfl) ?_
        repeat (go_big_quiet_step ((go_at_call 36; exact Calls.quiet_of_same (KC.out _))))
        refine wpQuiet_nil ?_
        intro _ hw'
        obtain ⟨nq, hw''⟩ := hw'
        subst hw''
        go_wp2_with fail
        rw [wU]
        clear wU
        exact ⟨⟨i, q, rfl, rfl, HI.out.1, HQ.out.1, by have := HQ.out; have := HI.out; omega, HR.out.drewN nq, HS1.out, HN.out⟩, by have := HQ.out; simp only [intOf]; omega⟩
    · have hij : i = j := by omega
      subst hij
      have hltz : ¬ (i : Int) < (i : Int) := by omega
      have hb := HH.out
      have HL := Lib.hid (show a ≤ i ∧ i ≤ m ∧ m < b ∧ m < n from by omega)
      have HE := Lib.hid (show Ordd (sdr R m i) a b from by rw [hb.2.1]; exact sdr_ord HO.out (by omega) (by omega) HS1.out HS2.out)
      clear hlt i1 i2 i3 hb HS1 HS2
      go_wp2_with fail
      go_loopw [17] (fun kv wr => ∃ k : Nat, i ≤ k ∧ k ≤ m ∧ kv = .int .i64 k ∧ RowG wr w0 base g n (sdr R m k) ∧ Seg a b n R (sdr R m k)) (fun kv _ => (intOf kv).toNat)
      case atStart => exact ⟨m, HL.out.2.1, Nat.le_refl _, rfl, by rw [sdr_start]; exact HR.out, by rw [sdr_start]; exact Seg.refl ..⟩
      case round =>
        obtain ⟨k, k1, k2, rfl, hr, hs⟩ := hrel
        by_cases hlt : i < k
        · have d1 : decide ((k : Int) > (i : Int)) = true := decide_eq_true (by omega)
          have d2 : decide (i < k) = true := decide_eq_true hlt
          have hh := HL.out
          have hh2 := HH.out
          obtain ⟨q, hq⟩ : ∃ q, q = k - 1 := ⟨_, rfl⟩
          have wq : IntKind.i64.wrap ((k : Int) - 1) = (q : Int) := by rw [IntKind.wrap_i64]; omega
          have k0 : (0 : Int) ≤ (k : Int) := Int.natCast_nonneg k
          have q0 : (0 : Int) ≤ (q : Int) := Int.natCast_nonneg q
          have kn : k < n := by omega
          have qn : q < n := by omega
          have k1z : (k : Int) < (n : Int) := by omega
          have q1z : (q : Int) < (n : Int) := by omega
          obtain ⟨ck, ik⟩ := hr.cell k kn
          obtain ⟨cq, iq⟩ := hr.cell q qn
          obtain ⟨ckq, ikq⟩ := hr.cell_map k q (by omega) qn (.float .f64 (sdr R m k q))
          obtain ⟨cqk, iqk⟩ := hr.cell_map q k (by omega) kn (.float .f64 (sdr R m k k))
          have hsw := hr.swap k q kn qn
          have hsg : Seg a b n (sdr R m k) (swp (sdr R m k) k q) := Seg.swap _ k q (by omega) (by omega) (by omega)
          have hst : swp (sdr R m k) k q = sdr R m q := by rw [hq]; exact sdr_step R m k (by omega) k2
          rw [hst] at hsw hsg
          have HSW := Lib.hid hsw
          have HSG := Lib.hid (hs.trans hsg)
          have HQ := Lib.hid (show i ≤ q ∧ q ≤ m ∧ q + 1 = k by omega)
          clear hr hs hq hlt hh hh2 hsw hsg hst kn qn k1 k2
          go_wp2_with fail
          go_region
          all_goals go_wp2
          exact ⟨⟨q, HQ.out.1, HQ.out.2.1, rfl, HSW.out.drew, HSG.out⟩, by have := HQ.out; simp only [intOf]; omega⟩
        · have : k = i := by omega
          subst this
          have d1 : decide ((k : Int) > (k : Int)) = false := decide_eq_false (by omega)
          have d2 : decide (k < k) = false := decide_eq_false (by omega)
          have HR := Lib.hid hr
          have HS := Lib.hid hs
          clear hr hs hlt k1 k2
          go_wp2
          refine bodyPost_ret (results_none rfl _ _ _) rfl ?_
          exact ⟨rfl, _, HR.out, HS.out, HE.out⟩
end Go.Proofs.Ytfhcgnkjncfeiaa
