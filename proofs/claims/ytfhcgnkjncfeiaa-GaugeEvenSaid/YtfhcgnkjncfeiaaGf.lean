/- Contracts of package gauge: Wears, Uneven; the document's Ints; the law's awake. -/
import Derived.Test.YtfhcgnkjncfeiaaGe
namespace Go.Proofs.Ytfhcgnkjncfeiaa
open Go.ChangeShapes Go.WideShapes Go.RowKit Fl

/-- from which line -/
def fromL (a : Int) : Nat := (max a 0).toNat
/-- how many lines are told -/
def cntL (a b : Int) (n : Nat) : Nat := (min b (n : Int) - max a 0).toNat
theorem row_slAt {w : World} {base n : Nat} {v : Value} {f : Nat → Int} (h : w.ownsRow base 3 1 v n (rowK f n)) (h0 : n = 0 → v = .slice none 0 0) : SlAt w v n f := by
  rcases Nat.eq_zero_or_pos n with e | e
  · exact Or.inl ⟨none, 0, h0 e, e⟩
  · obtain ⟨g, cap, hv, _, _, h1, h2, h3⟩ := row_of h e
    exact Or.inr ⟨g, 0, cap, hv, e, h1, h2, h3⟩
set_option maxRecDepth 100000 in
set_option maxHeartbeats 3200000 in
theorem wears_in {w : World} {Mb Cb n : Nat} {wear lim : Nat → Int} {writes : Int} (h : Mem w Mb Cb n wear lim writes) (hn : n ≤ 200) (a b : Int) :
    Calls Try.prog 52 #[.pointer (some ⟨Mb, 0, none⟩), .int .i64 a, .int .i64 b] w fun e w' => ∃ v, e = .returned v ∧ SlAt w' v (cntL a b n) (fun j => wear (fromL a + j)) ∧ Below w.heap.size w w' := by
  obtain ⟨i0, hi0, hz0, hz1, hz2⟩ := info_parts info3
  obtain ⟨L, hL⟩ : ∃ L : Nat, max a 0 = (L : Int) := ⟨(max a 0).toNat, by omega⟩
  obtain ⟨hi, hhi⟩ : ∃ hi : Int, min b (n : Int) = hi := ⟨_, rfl⟩
  have eL : fromL a = L := by unfold fromL; omega
  obtain ⟨c, hc⟩ : ∃ c, cntL a b n = c := ⟨_, rfl⟩
  have hc2 : c = (hi - (L : Int)).toNat := by rw [← hc, ← hL, ← hhi]; rfl
  rw [eL, hc]
  have hin : hi ≤ n := by omega
  have HM := Lib.hid h
  have HN := Lib.hid hn
  have HC := Lib.hid hc2
  have HIN := Lib.hid hin
  clear h hn eL hc hc2 hin
  go_enter Try.func52, Try.ntmps52
  go_wp2_with fail
  go_loopw [7, 8] (fun s i wr => ∃ k p : Nat, p = L + k ∧ k ≤ c ∧ i = .int .i64 p ∧ wr.ownsRow w.heap.size 3 1 s k (rowK (fun j => wear (L + j)) k) ∧ (k = 0 → s = .slice none 0 0) ∧ Below w.heap.size w wr) (fun _ i _ => c - ((intOf i).toNat - L))
  case atStart => exact ⟨0, L, by omega, by omega, rfl, World.ownsRow_nil _ _ _ _, fun _ => rfl, Below.refl _ _⟩
  case round =>
    obtain ⟨k, p, hp, hk, rfl, o1, oz, ob⟩ := hrel
    have HO := Lib.hid o1
    have HZ := Lib.hid oz
    have HB := Lib.hid ob
    have HP := Lib.hid hp
    clear o1 oz ob
    have KL := Lib.hid (lines_in (HM.out.below HB.out))
    by_cases hlt : k < c
    · have hc2 := HC.out
      have d1 : decide ((p : Int) < hi) = true := decide_eq_true (by omega)
      have d1' : (p : Int) < hi := by omega
      have hpn : p < n := by have := HIN.out; omega
      have KW := Lib.hid (wear_in (HM.out.below HB.out) p hpn)
      have wk : IntKind.i64.wrap ((p : Int) + 1) = (p : Int) + 1 := by have := HN.out; rw [IntKind.wrap_i64]; omega
      have HLT := Lib.hid hlt
      clear hlt hk hp hc2 hpn
      go_wp2_with fail
      refine KL.out.mono ?_
      rintro _ _ ⟨rfl, rfl⟩
      go_wp2_with fail
      refine KW.out.mono ?_
      rintro _ _ ⟨rfl, rfl⟩
      go_wp2_with (at_builtin; refine wpList_append_lies _ rfl (.tmp 19) (.tmp 23) 22 rfl w.heap.size 3 i0 _ 1 8 Try.underlying22 hi0 hz0 hz1 hz2 rfl (by decide) _ k _ rfl (HO.out.alloc _) ⟨wr.heap.size, 0, none⟩ 1 1 [.int .i64 (wear p)] rfl rfl (cell_one_new _ _ _) (by simp [Value.oneCell']) (by decide) (by have := HN.out; have := HLT.out; have := HC.out; have := HIN.out; unfold maxLen; omega) (by have := HN.out; have := HLT.out; have := HC.out; have := HIN.out; omega) (by have := HB.out.size; simp; omega) (wr.heap.size + 1) (by simp) ?_; intro gA cA wA hownA hgrowA hatA hltA)
      rw [HP.out] at hownA
      exact ⟨⟨k + 1, p + 1, by have := HP.out; omega, HLT.out, by simp, by rw [rowK_succ]; exact hownA, fun e => (by omega), below_of HB.out HB.out.size HO.out hgrowA⟩, by have := HLT.out; have := HP.out; simp only [intOf]; omega⟩
    · have hkc : k = c := by omega
      have hc2 := HC.out
      have d1 : decide ((p : Int) < hi) = false := decide_eq_false (by omega)
      have d1' : ¬ (p : Int) < hi := by omega
      clear hlt hk hp hc2
      have HK := Lib.hid hkc
      clear hkc
      go_wp2_with fail
      refine KL.out.mono ?_
      rintro _ _ ⟨rfl, rfl⟩
      go_wp2
      go_ret
      have := HK.out
      subst this
      exact ⟨_, rfl, row_slAt HO.out HZ.out, HB.out⟩
set_option maxHeartbeats 1600000 in
theorem wears_none (a b : Int) (w : World) : Calls Try.prog 52 #[.pointer none, .int .i64 a, .int .i64 b] w fun e w' => e = .returned (.slice none 0 0) ∧ w = w' := by
  have d1 : decide (max a 0 < min b 0) = false := decide_eq_false (by omega)
  have d1' : ¬ max a 0 < min b 0 := by omega
  obtain ⟨L, hL⟩ : ∃ L, max a 0 = L := ⟨_, rfl⟩
  rw [hL] at d1 d1'
  go_enter Try.func52, Try.ntmps52
  go_wp2_with fail
  go_loopw [7, 8] (fun s i wr => i = .int .i64 L ∧ s = .slice none 0 0 ∧ wr = w) (fun _ _ _ => 0)
  case atStart => exact ⟨rfl, rfl, rfl⟩
  case round =>
    obtain ⟨rfl, rfl, rfl⟩ := hrel
    go_wp2_with (go_at_call 57; refine (lines_none _).mono ?_; rintro _ _ ⟨rfl, rfl⟩)
    go_ret
    exact ⟨rfl, rfl⟩
theorem uneven_zero (f : Nat → Int) : unevenF f 0 = NANW := by
  unfold unevenF okN; rfl
theorem uneven_sl {w : World} {v : Value} {n : Nat} {f : Nat → Int} (h : SlAt w v n f) : Calls Try.prog 26 #[v] w fun e w' => e = .returned (.float .f64 (unevenF f n)) ∧ ∃ k, w' = w.drewN k := by
  rcases h with ⟨ao, cap, rfl, rfl⟩ | ⟨b, off, cap, rfl, h0, h1, h2, h3⟩
  · rw [uneven_zero]
    exact (uneven_none ao cap w).mono fun _ _ ⟨h1, h2⟩ => ⟨h1, 0, h2.symm⟩
  · exact uneven_any f b off n cap w h3 h1 h2
set_option maxHeartbeats 800000 in
theorem guneven_in {w : World} {Mb Cb n : Nat} {wear lim : Nat → Int} {writes : Int} (h : Mem w Mb Cb n wear lim writes) (hn : n ≤ 200) (a b : Int) :
    Calls Try.prog 49 #[.pointer (some ⟨Mb, 0, none⟩), .int .i64 a, .int .i64 b] w fun e w' => e = .returned (.float .f64 (unevenF (fun j => wear (fromL a + j)) (cntL a b n))) ∧ Below w.heap.size w w' := by
  have K := Lib.hid (wears_in h hn a b)
  clear h hn
  go_enter Try.func49, Try.ntmps49
  go_wp2_with fail
  refine K.out.mono ?_
  rintro _ w1 ⟨v, rfl, hs, hb⟩
  have HB := Lib.hid hb
  have KU := Lib.hid (uneven_sl hs)
  clear hs hb
  go_wp2_with fail
  refine KU.out.mono ?_
  rintro _ _ ⟨rfl, k, rfl⟩
  go_wp2
  go_ret
  exact ⟨rfl, below_drawn HB.out⟩
set_option maxHeartbeats 800000 in
theorem guneven_none (a b : Int) (w : World) : Calls Try.prog 49 #[.pointer none, .int .i64 a, .int .i64 b] w fun e w' => e = .returned (.float .f64 NANW) ∧ w = w' := by
  go_enter Try.func49, Try.ntmps49
  go_wp2_with fail
  refine (wears_none _ _ _).mono ?_
  rintro _ _ ⟨rfl, rfl⟩
  go_wp2_with fail
  refine (uneven_none _ _ _).mono ?_
  rintro _ _ ⟨rfl, rfl⟩
  go_wp2
  go_ret
  exact ⟨rfl, rfl⟩

/-! ### the document's Ints -/
set_option maxHeartbeats 1600000 in
theorem ints_same (w : World) (v1 v2 : Value) (n : Nat) (f : Nat → Int) (h1 : SlAt w v1 n f) (h2 : SlAt w v2 n f) (hn : n ≤ 1000000) :
    Calls Try.prog 51 #[v1, v2] w fun e w' => e = .returned (.bool true) ∧ ∃ k, w' = w.drewN k := by
  obtain ⟨ao1, cap1, rfl⟩ := h1.form
  obtain ⟨ao2, cap2, rfl⟩ := h2.form
  have A := Lib.hid h1
  have B := Lib.hid h2
  have HN := Lib.hid hn
  clear h1 h2 hn
  go_enter Try.func51, Try.ntmps51
  go_wp2
  go_loopw [13] (fun i wr => ∃ k d, k ≤ n ∧ i = .int .i64 k ∧ wr = w.drewN d) (fun i _ => n - (intOf i).toNat)
  case atStart => exact ⟨0, 0, by omega, rfl, rfl⟩
  case round =>
    obtain ⟨k, d, hk, rfl, rfl⟩ := hrel
    by_cases hlt : k < n
    · have hltz : (k : Int) < (n : Int) := by omega
      have k0 : (0 : Int) ≤ (k : Int) := by omega
      have wk : IntKind.i64.wrap ((k : Int) + 1) = (k : Int) + 1 := by have := HN.out; rw [IntKind.wrap_i64]; omega
      rcases A.out with ⟨_, _, _, e⟩ | ⟨b1, o1, c1, e1, _, _, _, hI1⟩
      · exfalso; omega
      rcases B.out with ⟨_, _, _, e⟩ | ⟨b2, o2, c2, e2, _, _, _, hI2⟩
      · exfalso; omega
      obtain ⟨rfl, rfl⟩ : ao1 = some ⟨b1, o1, none⟩ ∧ cap1 = c1 := by simpa using e1
      obtain ⟨rfl, rfl⟩ : ao2 = some ⟨b2, o2, none⟩ ∧ cap2 = c2 := by simpa using e2
      have cA := hI1 k hlt
      have cB := hI2 k hlt
      have HLT := Lib.hid hlt
      clear hI1 hI2 e1 e2 hlt hk
      go_wp2_with fail
      go_quiet (fail)
      go_wp2
      exact ⟨⟨k + 1, d + nq, HLT.out, by simp, rfl⟩, by have := HLT.out; simp only [intOf]; omega⟩
    · have : k = n := by omega
      subst this
      have hltz : ¬ (k : Int) < (k : Int) := by omega
      go_wp2
      go_ret
      exact ⟨rfl, d, rfl⟩
end Go.Proofs.Ytfhcgnkjncfeiaa
