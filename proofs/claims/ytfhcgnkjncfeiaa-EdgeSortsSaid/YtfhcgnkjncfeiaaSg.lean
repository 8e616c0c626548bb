/- slices.symMergeCmpFunc. -/
import Derived.Test.YtfhcgnkjncfeiaaSf
import Derived.Deep.DeepCutAuto
namespace Go.Proofs.Ytfhcgnkjncfeiaa
open Go.ChangeShapes Go.WideShapes Go.RowKit Fl

set_option maxRecDepth 100000 in
set_option maxHeartbeats 6400000 in
theorem sym_any (f : Nat) : SymAt f := by
  induction f with
  | zero => intro w w0 base g n R _ _ cap a m b h1 h2 _ _ h3; omega
  | succ f ih =>
  intro w w0 base g n R h hR cap a m b ham hmb hbn hn hf o1 o2
  by_cases c1 : m = a + 1
  · exact sym_left h hR cap a m b c1 hmb hbn hn o2
  by_cases c2 : b = m + 1
  · exact sym_right h hR cap a m b ham c1 c2 hbn hn o1
  obtain ⟨mid, hmid⟩ : ∃ mid, mid = (a + b) / 2 := ⟨_, rfl⟩
  obtain ⟨st, r0, hc⟩ : ∃ st r0, (m ≤ mid ∧ st = a ∧ r0 = m) ∨ (mid < m ∧ st + b = mid + m ∧ r0 = mid) := by
    by_cases hx : m ≤ mid
    · exact ⟨a, m, Or.inl ⟨hx, rfl, rfl⟩⟩
    · exact ⟨mid + m - b, mid, Or.inr ⟨by omega, by omega, rfl⟩⟩
  have C := Lib.hid (Cut.start ⟨ham, hmb, hmid⟩ o1 o2 hc)
  have IH := Lib.hid ih
  have H := Lib.hid h
  have HW := Lib.hid hR
  have HH := Lib.hid (show a < m ∧ m < b ∧ b ≤ n ∧ n ≤ 100000 ∧ b - a ≤ f + 1 from ⟨ham, hmb, hbn, hn, hf⟩)
  obtain ⟨D, hD⟩ : ∃ D, D = m - a := ⟨_, rfl⟩
  obtain ⟨E, hE⟩ : ∃ E, E = b - m := ⟨_, rfl⟩
  obtain ⟨S, hS⟩ : ∃ S, S = a + b := ⟨_, rfl⟩
  obtain ⟨T, hT⟩ : ∃ T, T = mid + m := ⟨_, rfl⟩
  obtain ⟨p, hp⟩ : ∃ p, p = mid + m - 1 := ⟨_, rfl⟩
  have w1 : IntKind.i64.wrap ((m : Int) - (a : Int)) = (D : Int) := by rw [IntKind.wrap_i64]; omega
  have e1 : ((D : Int) == 1) = false := by simp; omega
  have e2 : (D == 1) = false := by simp; omega
  have e3 : decide (D = 1) = false := decide_eq_false (by omega)
  have w2 : IntKind.i64.wrap ((b : Int) - (m : Int)) = (E : Int) := by rw [IntKind.wrap_i64]; omega
  have e4 : ((E : Int) == 1) = false := by simp; omega
  have e5 : (E == 1) = false := by simp; omega
  have e6 : decide (E = 1) = false := decide_eq_false (by omega)
  have wS : IntKind.i64.wrap ((a : Int) + (b : Int)) = (S : Int) := by rw [IntKind.wrap_i64]; omega
  have wT : IntKind.i64.wrap ((mid : Int) + (m : Int)) = (T : Int) := by rw [IntKind.wrap_i64]; omega
  have wp : IntKind.i64.wrap ((T : Int) - 1) = (p : Int) := by rw [IntKind.wrap_i64]; omega
  have wTb := Lib.hid (show mid < m → IntKind.i64.wrap ((T : Int) - (b : Int)) = (st : Int) from fun hx => by rw [IntKind.wrap_i64]; omega)
  have HT := Lib.hid (And.intro hT (And.intro hp hmid))
  have HC := Lib.hid hc
  have wU := Lib.hid (half_wrap S mid (by omega) (by omega))
  clear h hR ih ham hmb hbn hn hf o1 o2 c1 c2 hD hE hS hT hp hmid hc
  have wU := wU.out
  unfold CMPF
  go_enter Try.func92, Try.ntmps92
  go_upto_if 140 with fail
  go_cut [18, 20, 21] (fun mv sv rv wx => mv = .int .i64 mid ∧ sv = .int .i64 st ∧ rv = .int .i64 r0 ∧ wx = w)
  case first =>
    rcases HC.out with ⟨hx, hy, hz⟩ | ⟨hx, hy, hz⟩
    · have d1 : decide ((m : Int) > (mid : Int)) = false := decide_eq_false (by omega)
      have d2 : decide (mid < m) = false := decide_eq_false (by omega)
      have d3 : decide ((mid : Int) < (m : Int)) = false := decide_eq_false (by omega)
      have d4 : ¬ ((mid : Int) < (m : Int)) := by omega
      have HY := Lib.hid (And.intro hy hz)
      clear hx hy hz
      go_wp2_with fail
      go_meet
      (try rw [wU]); rw [HY.out.1, HY.out.2]; exact ⟨rfl, rfl, rfl, rfl⟩
    · have d1 : decide ((m : Int) > (mid : Int)) = true := decide_eq_true (by omega)
      have d2 : decide (mid < m) = true := decide_eq_true (by omega)
      have d3 : decide ((mid : Int) < (m : Int)) = true := decide_eq_true (by omega)
      have d4 : ((mid : Int) < (m : Int)) := by omega
      have wb := wTb.out hx
      have HY := Lib.hid hz
      clear hx hy hz
      go_wp2_with fail
      go_meet
      (try rw [wU]); rw [HY.out]; exact ⟨rfl, rfl, rfl, rfl⟩
  case rest =>
  obtain ⟨rfl, rfl, rfl, rfl⟩ := hcut
  clear wU wTb wS w1 e1 e2 e3 w2 e4 e5 e6 wT
  go_wp2_with fail
  go_loopw [20, 21] (fun iv jv wr => ∃ s r : Nat, iv = .int .i64 s ∧ jv = .int .i64 r ∧ RowG wr w0 base g n R ∧ Cut R a m b mid st r0 s r) (fun iv jv _ => (intOf jv).toNat - (intOf iv).toNat)
  case atStart => exact ⟨st, r0, rfl, rfl, H.out, C.out⟩
  case round =>
    obtain ⟨s, r, rfl, rfl, hr, hcu⟩ := hrel
    have HR := Lib.hid hr
    have hh := HH.out
    have hcc := HC.out
    have htt := HT.out
    have hss := hcu.hs
    by_cases hlt : s < r
    · have hltz : (s : Int) < (r : Int) := by omega
      obtain ⟨S2, hS⟩ : ∃ S2, S2 = s + r := ⟨_, rfl⟩
      obtain ⟨q, hq⟩ : ∃ q, q = S2 / 2 := ⟨_, rfl⟩
      obtain ⟨u, hu⟩ : ∃ u, u = mid + m - 1 - q := ⟨_, rfl⟩
      have wS : IntKind.i64.wrap ((s : Int) + (r : Int)) = (S2 : Int) := by rw [IntKind.wrap_i64]; omega
      have wq : IntKind.i64.wrap ((q : Int) + 1) = ((q + 1 : Nat) : Int) := by rw [IntKind.wrap_i64]; omega
      have wu : IntKind.i64.wrap ((p : Int) - (q : Int)) = (u : Int) := by rw [IntKind.wrap_i64]; omega
      have q0 : (0 : Int) ≤ (q : Int) := Int.natCast_nonneg q
      have u0 : (0 : Int) ≤ (u : Int) := Int.natCast_nonneg u
      have qn : q < n := by omega
      have un : u < n := by omega
      have q1 : (q : Int) < (n : Int) := by omega
      have u1 : (u : Int) < (n : Int) := by omega
      obtain ⟨cq, _⟩ := hr.cell q qn
      obtain ⟨cu, _⟩ := hr.cell u un
      have KC := cmp_same (R u) (R q) (HW.out u) (HW.out q) wr
      have hqi : s ≤ q ∧ q < r := by omega
      have HQ := Lib.hid hqi
      have wU := Lib.hid (half_wrap S2 q hq (by omega))
      have hq2 : q = (s + r) / 2 := by omega
      by_cases hl : ¬ rank (R u) < rank (R q)
      · have dc : decide (ecmp (R u) (R q) < 0) = false := decide_eq_false (fun e => hl ((ecmp_lt_iff _ _).1 e))
        have HN := Lib.hid (hcu.up hq2 hlt (by rw [← hu]; exact hl))
        have KC := Lib.hid KC
        clear hlt hS hq hq2 hqi hl qn un hr hcu hh hcc htt hss hu
        obtain ⟨q', hq'⟩ : ∃ q', q + 1 = q' := ⟨_, rfl⟩
        rw [hq'] at wq HN
        have HQ' := Lib.hid hq'
        clear hq'
        have wU := wU.out
        go_wp2_with fail
        refine wp_region_quiet_lit (by kernel_rfl) (by kernel_rfl) ?_
        repeat (go_big_quiet_step ((go_at_call 36; exact Calls.quiet_of_same (KC.out _))))
        refine wpQuiet_nil ?_
        intro _ hw'
        obtain ⟨nq, hw''⟩ := hw'
        subst hw''
        go_wp2_with fail
        clear wU
        exact ⟨⟨q', r, rfl, rfl, HR.out.drewN nq, HN.out⟩, by have := HQ.out; have := HQ'.out; simp only [intOf]; omega⟩
      · have hl' := Classical.not_not.1 hl
        have dc : decide (ecmp (R u) (R q) < 0) = true := decide_eq_true ((ecmp_lt_iff _ _).2 hl')
        have HN := Lib.hid (hcu.down hq2 hlt (by rw [← hu]; exact hl'))
        have KC := Lib.hid KC
        clear hlt hS hq hq2 hqi hl hl' qn un hr hcu hh hcc htt hss hu
        have wU := wU.out
        go_wp2_with fail
        refine wp_region_quiet_lit (by kernel_rfl) (by kernel_rfl) ?_
        repeat (go_big_quiet_step ((go_at_call 36; exact Calls.quiet_of_same (KC.out _))))
        refine wpQuiet_nil ?_
        intro _ hw'
        obtain ⟨nq, hw''⟩ := hw'
        subst hw''
        go_wp2_with fail
        rw [wU]
        clear wU
        exact ⟨⟨s, q, rfl, rfl, HR.out.drewN nq, HN.out⟩, by have := HQ.out; simp only [intOf]; omega⟩
    · have hsr : s = r := by omega
      subst hsr
      have hltz : ¬ (s : Int) < (s : Int) := by omega
      have lim := hcu.lim
      obtain ⟨e, he⟩ : ∃ e, e = mid + m - s := ⟨_, rfl⟩
      have we : IntKind.i64.wrap ((T : Int) - (s : Int)) = (e : Int) := by rw [IntKind.wrap_i64]; omega
      have LIM := Lib.hid (show a ≤ s ∧ s ≤ m ∧ s ≤ mid ∧ a < mid ∧ mid < b ∧ m ≤ e ∧ e ≤ b ∧ mid ≤ e ∧ e - m = mid - s by omega)
      have HE := Lib.hid he
      have CU := Lib.hid hcu
      clear hlt hr hcu hh hcc htt hss lim he
      clear wp
      go_upto_region 38 with fail
      go_cut [24] from 175 to 177 (fun ev wx => ev = .int .i64 e ∧ wx = wr)
      case first =>
        go_wp2_with fail
        go_meet
        exact ⟨rfl, rfl⟩
      case rest =>
      obtain ⟨rfl, rfl⟩ := hcut
      first
        | (rename_i hk; refine hk _ _ ?_)
        | (rename_i hk _; refine hk _ _ ?_)
        | (rename_i hk _ _; refine hk _ _ ?_)
        | (rename_i hk _ _ _; refine hk _ _ ?_)
        | (rename_i hk _ _ _ _; refine hk _ _ ?_)
      exact t39 CU.out HE.out ⟨HH.out.2.2.1, HH.out.2.2.2.1, HH.out.2.2.2.2⟩ IH.out _ (fun a' w' hd hx => bodyPost_end (results_none rfl _ _ _) hd ⟨rfl, hx⟩) HR.out HW.out
end Go.Proofs.Ytfhcgnkjncfeiaa
