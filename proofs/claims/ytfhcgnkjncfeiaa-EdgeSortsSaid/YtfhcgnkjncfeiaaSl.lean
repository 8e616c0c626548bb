/- The walk of EdgeForms. -/
import Derived.Test.YtfhcgnkjncfeiaaSk
namespace Go.Proofs.Ytfhcgnkjncfeiaa
open Go.ChangeShapes Go.WideShapes Go.RowKit Fl

/-- a least one, or none -/
def Lst (z n : Nat) (F : Nat → Nat) : Prop := (n = 0 → z = NANW) ∧ (0 < n → (∀ j, j < n → rank z ≤ rank (F j)) ∧ ∃ j, j < n ∧ z = F j)
def Mst (z n : Nat) (F : Nat → Nat) : Prop := (n = 0 → z = NANW) ∧ (0 < n → (∀ j, j < n → rank (F j) ≤ rank z) ∧ ∃ j, j < n ∧ z = F j)
theorem Lst.wd {z n : Nat} {F : Nat → Nat} (h : Lst z n F) (hF : ∀ j, Wd (F j)) : Wd z := by
  by_cases e : n = 0
  · rw [h.1 e]; unfold Wd; decide
  · obtain ⟨_, j, _, rfl⟩ := h.2 (by omega); exact hF j
theorem Mst.wd {z n : Nat} {F : Nat → Nat} (h : Mst z n F) (hF : ∀ j, Wd (F j)) : Wd z := by
  by_cases e : n = 0
  · rw [h.1 e]; unfold Wd; decide
  · obtain ⟨_, j, _, rfl⟩ := h.2 (by omega); exact hF j
theorem Lst.same {z y n : Nat} {F : Nat → Nat} (h : Lst z n F) (h' : Lst y n F) : ecmp z y = 0 := by
  by_cases e : n = 0
  · rw [h.1 e, h'.1 e]; exact ecmp_self _
  · obtain ⟨a, j, hj, e1⟩ := h.2 (by omega)
    obtain ⟨b, k, hk, e2⟩ := h'.2 (by omega)
    have x := a k hk
    have y' := b j hj
    rw [← e2] at x
    rw [← e1] at y'
    exact (ecmp_eq_iff _ _).2 (by omega)
theorem Mst.same {z y n : Nat} {F : Nat → Nat} (h : Mst z n F) (h' : Mst y n F) : ecmp z y = 0 := by
  by_cases e : n = 0
  · rw [h.1 e, h'.1 e]; exact ecmp_self _
  · obtain ⟨a, j, hj, e1⟩ := h.2 (by omega)
    obtain ⟨b, k, hk, e2⟩ := h'.2 (by omega)
    have x := a k hk
    have y' := b j hj
    rw [← e2] at x
    rw [← e1] at y'
    exact (ecmp_eq_iff _ _).2 (by omega)
set_option maxHeartbeats 800000 in
theorem min_empty (ao : Option Addr) (cap : Nat) (w : World) : Calls Try.prog 44 #[.slice ao 0 cap] w fun e w' => e = .returned (.float .f64 9221120237041090561) ∧ w = w' := by
  go_enter Try.func44, Try.ntmps44
  go_wp2_with (first | (go_at_call 36; refine (cmp_any _ _ _ (by assumption) (by assumption)).mono ?_; rintro _ _ ⟨rfl, rfl⟩) | (go_at_call 30; refine (same_any _ _ _ (by assumption) (by assumption)).mono ?_; rintro _ _ ⟨rfl, rfl⟩) | (go_at_call 68; refine (isNaN_any _ _).mono ?_; rintro _ _ ⟨rfl, rfl⟩) | (go_at_call 28; refine (isInf_any _ _ (by assumption) (by assumption)).mono ?_; rintro _ _ ⟨rfl, rfl⟩) | (go_at_call 40; refine (nan_any _).mono ?_; rintro _ _ ⟨rfl, rfl⟩) | (go_at_call 39; refine (infPos_any _).mono ?_; rintro _ _ ⟨rfl, rfl⟩) | (go_at_call 39; refine (infNeg_any _).mono ?_; rintro _ _ ⟨rfl, rfl⟩) | (go_at_call 46; refine (negNought_any _).mono ?_; rintro _ _ ⟨rfl, rfl⟩) | (go_at_call 43; refine (bit_any _ _).mono ?_; rintro _ _ ⟨rfl, rfl⟩))
  go_ret
  exact ⟨rfl, rfl⟩
set_option maxHeartbeats 800000 in
theorem max_empty (ao : Option Addr) (cap : Nat) (w : World) : Calls Try.prog 45 #[.slice ao 0 cap] w fun e w' => e = .returned (.float .f64 9221120237041090561) ∧ w = w' := by
  go_enter Try.func45, Try.ntmps45
  go_wp2_with (first | (go_at_call 36; refine (cmp_any _ _ _ (by assumption) (by assumption)).mono ?_; rintro _ _ ⟨rfl, rfl⟩) | (go_at_call 30; refine (same_any _ _ _ (by assumption) (by assumption)).mono ?_; rintro _ _ ⟨rfl, rfl⟩) | (go_at_call 68; refine (isNaN_any _ _).mono ?_; rintro _ _ ⟨rfl, rfl⟩) | (go_at_call 28; refine (isInf_any _ _ (by assumption) (by assumption)).mono ?_; rintro _ _ ⟨rfl, rfl⟩) | (go_at_call 40; refine (nan_any _).mono ?_; rintro _ _ ⟨rfl, rfl⟩) | (go_at_call 39; refine (infPos_any _).mono ?_; rintro _ _ ⟨rfl, rfl⟩) | (go_at_call 39; refine (infNeg_any _).mono ?_; rintro _ _ ⟨rfl, rfl⟩) | (go_at_call 46; refine (negNought_any _).mono ?_; rintro _ _ ⟨rfl, rfl⟩) | (go_at_call 43; refine (bit_any _ _).mono ?_; rintro _ _ ⟨rfl, rfl⟩))
  go_ret
  exact ⟨rfl, rfl⟩
theorem emin_any (w : World) (v : Value) (n : Nat) (F : Nat → Nat) (h : SlF w v n F) (hF : ∀ j, Wd (F j)) (hn : n ≤ 100000) :
    Calls Try.prog 44 #[v] w fun e w' => ∃ z, e = .returned (.float .f64 z) ∧ w' = w ∧ Lst z n F := by
  rcases h with ⟨ao, cap, rfl, rfl⟩ | ⟨b, off, cap, rfl, h0, h1, h2, h3⟩
  · exact (min_empty ao cap w).mono fun _ _ ⟨e, hw⟩ => ⟨_, e, hw.symm, fun _ => rfl, fun e => absurd e (by omega)⟩
  · refine (min_any F b off cap n w h0 (by omega) (fun j _ => hF j) h3).mono fun _ _ ⟨e, hw⟩ => ⟨_, e, hw.symm, fun e => absurd e (by omega), fun _ => ⟨fun j hj => minAt_le F (n - 1) j (by omega), ?_⟩⟩
    obtain ⟨j, hj, e⟩ := minAt_in F (n - 1)
    exact ⟨j, by omega, e⟩
theorem emax_any (w : World) (v : Value) (n : Nat) (F : Nat → Nat) (h : SlF w v n F) (hF : ∀ j, Wd (F j)) (hn : n ≤ 100000) :
    Calls Try.prog 45 #[v] w fun e w' => ∃ z, e = .returned (.float .f64 z) ∧ w' = w ∧ Mst z n F := by
  rcases h with ⟨ao, cap, rfl, rfl⟩ | ⟨b, off, cap, rfl, h0, h1, h2, h3⟩
  · exact (max_empty ao cap w).mono fun _ _ ⟨e, hw⟩ => ⟨_, e, hw.symm, fun _ => rfl, fun e => absurd e (by omega)⟩
  · refine (max_any F b off cap n w h0 (by omega) (fun j _ => hF j) h3).mono fun _ _ ⟨e, hw⟩ => ⟨_, e, hw.symm, fun e => absurd e (by omega), fun _ => ⟨fun j hj => maxAt_le F (n - 1) j (by omega), ?_⟩⟩
    obtain ⟨j, hj, e⟩ := maxAt_in F (n - 1)
    exact ⟨j, by omega, e⟩
theorem quot_wd (x y : Nat) : Wd ((quot x y).getD 0) := by
  unfold quot
  by_cases hy : rg y = 0
  · rw [if_pos hy]; show Wd 0; unfold Wd; decide
  · rw [if_neg hy]
    cases hq : fdiv x y with
    | none => show Wd 0; unfold Wd; decide
    | some q =>
      dsimp only
      split
      · show Wd 0; unfold Wd; decide
      · exact (fdiv_fine hq).1

theorem bel_then {w0 w w' : World} (h : Below w0.heap.size w0 w) (h' : Below w.heap.size w w') : Below w0.heap.size w0 w' := h.trans (h'.mono h.size)
theorem bel_drawn {w0 w : World} {n : Nat} (h : Below w0.heap.size w0 w) : Below w0.heap.size w0 (w.drewN n) := ⟨h.os, h.tape, h.output, h.size, h.block⟩
set_option maxRecDepth 100000 in
set_option maxHeartbeats 12800000 in
theorem edgeForms_some (x y z : Nat) (v : Value) (n : Nat) (F : Nat → Nat) (w : World) (wx : Wd x) (wy : Wd y) (wz : Wd z) (h : SlU w v n F) (hF : ∀ j, Wd (F j)) (hn : n ≤ 200) :
    Calls Try.prog 21 #[.int .u64 (x : Nat), .int .u64 (y : Nat), .int .u64 (z : Nat), v] w fun e w' => e = .returned (.bool true) ∧ Below w.heap.size w w' := by
  have d1 : decide (200 < (n : Int)) = false := decide_eq_false (by omega)
  have d2 : decide (200 < n) = false := decide_eq_false (by omega)
  have KO := Lib.hid (of_any w v n F h (by omega))
  have HF := Lib.hid hF
  have HN := Lib.hid hn
  obtain ⟨c, hc⟩ : ∃ c, ecmp x y = c := ⟨_, rfl⟩
  obtain ⟨Q, hQ⟩ : ∃ Q, (quot x y).getD 0 = Q := ⟨_, rfl⟩
  obtain ⟨ok, hok⟩ : ∃ ok, (quot x y).isSome = ok := ⟨_, rfl⟩
  obtain ⟨wi, hwi⟩ : ∃ wi, (if wholeOk x then wholeI x else 0) = wi := ⟨_, rfl⟩
  obtain ⟨wo, hwo⟩ : ∃ wo, wholeOk x = wo := ⟨_, rfl⟩
  obtain ⟨C, hC⟩ : ∃ C, clampF x y z = C := ⟨_, rfl⟩
  have wQ : Wd Q := by rw [← hQ]; exact quot_wd x y
  have wC : Wd C := by
    rw [← hC]; unfold clampF
    split
    · exact wy
    · split
      · exact wz
      · exact wx
  have K1 : ∀ w, Calls Try.prog 42 #[.float .f64 x, .float .f64 y] w fun e w' => e = .returned (.tuple #[.float .f64 Q, .bool ok]) ∧ ∃ n, w' = w.drewN n := fun w => by
    have := div_any x y w; rw [hQ, hok] at this; exact this
  have K2 : ∀ w, Calls Try.prog 60 #[.float .f64 x, .float .f64 y] w fun e w' => e = .returned (.tuple #[.float .f64 Q, .bool ok]) ∧ ∃ n, w' = w.drewN n := fun w => by
    have := rdiv_any x y w; rw [hQ, hok] at this; exact this
  have K3 : ∀ w, Calls Try.prog 38 #[.float .f64 x] w fun e w' => e = .returned (.tuple #[.int .i64 wi, .bool wo]) ∧ w = w' := fun w => by
    have := whole_any x w; rw [hwi, hwo] at this; exact this
  have K4 : ∀ w, Calls Try.prog 61 #[.float .f64 x] w fun e w' => e = .returned (.tuple #[.int .i64 wi, .bool wo]) ∧ w = w' := fun w => by
    have := rwhole_any x w; rw [hwi, hwo] at this; exact this
  have K5 : ∀ w, Calls Try.prog 36 #[.float .f64 x, .float .f64 y] w fun e w' => e = .returned (.int .i64 c) ∧ w = w' := fun w => by
    have := cmp_any x y w wx wy; rw [hc] at this; exact this
  have K6 : ∀ w, Calls Try.prog 29 #[.float .f64 x, .float .f64 y] w fun e w' => e = .returned (.int .i64 c) ∧ w = w' := fun w => by
    have := rcmp_any x y w wx wy; rw [hc] at this; exact this
  have K7 : ∀ w, Calls Try.prog 30 #[.float .f64 x, .float .f64 y] w fun e w' => e = .returned (.bool (decide (c = 0))) ∧ w = w' := fun w => by
    have := same_any x y w wx wy; rw [hc] at this; exact this
  have K8 : ∀ w, Calls Try.prog 41 #[.float .f64 x, .float .f64 y, .float .f64 z] w fun e w' => e = .returned (.float .f64 C) ∧ w = w' := fun w => by
    have := clamp_any x y z w wx wy wz; rw [hC] at this; exact this
  have K9 : ∀ w, Calls Try.prog 66 #[.float .f64 x, .float .f64 y, .float .f64 z] w fun e w' => e = .returned (.float .f64 C) ∧ w = w' := fun w => by
    have := rclamp_any x y z w wx wy wz; rw [hC] at this; exact this
  have KQ : ∀ w, Calls Try.prog 29 #[.float .f64 Q, .float .f64 Q] w fun e w' => e = .returned (.int .i64 0) ∧ w = w' := fun w => by
    have := rcmp_any Q Q w wQ wQ; rw [ecmp_self] at this; exact this
  have KC : ∀ w, Calls Try.prog 29 #[.float .f64 C, .float .f64 C] w fun e w' => e = .returned (.int .i64 0) ∧ w = w' := fun w => by
    have := rcmp_any C C w wC wC; rw [ecmp_self] at this; exact this
  have K1 := Lib.hid K1
  have K2 := Lib.hid K2
  have K3 := Lib.hid K3
  have K4 := Lib.hid K4
  have K5 := Lib.hid K5
  have K6 := Lib.hid K6
  have K7 := Lib.hid K7
  have K8 := Lib.hid K8
  have K9 := Lib.hid K9
  have KQ := Lib.hid KQ
  have KC := Lib.hid KC
  obtain ⟨ao, cap, rfl⟩ := h.form
  obtain ⟨dc, hdc⟩ : ∃ dc, decide (c = 0) = dc := ⟨_, rfl⟩
  have hdc2 : (c == 0) = dc := hdc
  clear h hF hn hc hQ hok hwi hwo hC wQ wC wx wy wz
  go_enter Try.func21, Try.ntmps21
  go_wp2_with fail
  refine KO.out.mono ?_
  rintro _ w1 ⟨v1, rfl, o1, z1, b1⟩
  have S1 := Lib.hid (own_slF o1 z1)
  have B1 := Lib.hid b1
  clear KO o1 z1 b1
  go_wp2_with fail
  refine (K1.out _).mono ?_
  rintro _ w2 ⟨rfl, n2, e2⟩
  have S2 := Lib.hid (show SlF w2 v1 n F by rw [e2]; exact S1.out)
  have B2 := Lib.hid (show Below w.heap.size w w2 by rw [e2]; exact bel_drawn B1.out)
  clear K1 S1 B1 e2
  go_wp2_with fail
  refine (K2.out _).mono ?_
  rintro _ w3 ⟨rfl, n3, e3⟩
  have S3 := Lib.hid (show SlF w3 v1 n F by rw [e3]; exact S2.out)
  have B3 := Lib.hid (show Below w.heap.size w w3 by rw [e3]; exact bel_drawn B2.out)
  clear K2 S2 B2 e3
  go_wp2_with fail
  refine (K3.out _).mono ?_
  rintro _ _ ⟨rfl, rfl⟩
  go_wp2_with fail
  refine (K4.out _).mono ?_
  rintro _ _ ⟨rfl, rfl⟩
  go_wp2_with fail
  refine (K5.out _).mono ?_
  rintro _ _ ⟨rfl, rfl⟩
  go_wp2_with fail
  refine (K6.out _).mono ?_
  rintro _ _ ⟨rfl, rfl⟩
  go_wp2_with fail
  refine (K7.out _).mono ?_
  rintro _ _ ⟨rfl, rfl⟩
  go_wp2_with fail
  refine (K6.out _).mono ?_
  rintro _ _ ⟨rfl, rfl⟩
  clear K3 K4 K5 K6 K7
  go_wp2_with fail
  refine (esort_any w3 v1 n F S3.out HF.out (by have := HN.out; omega)).mono ?_
  rintro _ w4 ⟨v4, R4, rfl, s4, p4, o4, d4, b4⟩
  have S4 := Lib.hid (S3.out.kept b4)
  have B4 := Lib.hid (bel_then B3.out b4)
  have T4 := Lib.hid (And.intro s4 (And.intro p4 (And.intro o4 d4)))
  clear S3 B3 s4 p4 o4 d4 b4
  go_wp2_with fail
  refine (rsort_any w4 v1 n F S4.out HF.out (by have := HN.out; omega)).mono ?_
  rintro _ w5 ⟨v5, s, rfl, hs⟩
  have S5 := Lib.hid (S4.out.kept hs.hb)
  have B5 := Lib.hid (bel_then B4.out hs.hb)
  have hperm : (first R4 n).Perm (first (fun j => s.getD j 0) n) := by rw [← hs.fn]; exact T4.out.2.1.trans hs.hp.symm
  have KS := Lib.hid (rows_same w5 v4 v5 n R4 _ (T4.out.1.kept hs.hb) hs.slF (fun j _ => T4.out.2.2.2 j) (wd_perm (hperm.symm.trans T4.out.2.1) HF.out) (ord_same hperm T4.out.2.2.1 hs.ordd) (by have := HN.out; omega))
  clear S4 B4 T4 hs hperm
  go_wp2_with fail
  refine KS.out.mono ?_
  rintro _ w6 ⟨rfl, d6, e6⟩
  have S6 := Lib.hid (show SlF w6 v1 n F by rw [e6]; exact S5.out)
  have B6 := Lib.hid (show Below w.heap.size w w6 by rw [e6]; exact bel_drawn B5.out)
  clear KS S5 B5 e6
  go_wp2_with fail
  refine (emin_any w6 v1 n F S6.out HF.out (by have := HN.out; omega)).mono ?_
  rintro _ w6 ⟨z1, rfl, rfl, l1⟩
  have L1 := Lib.hid l1
  clear l1
  go_wp2_with fail
  refine (rmin_any w6 v1 n F S6.out HF.out (by have := HN.out; omega)).mono ?_
  rintro _ w7 ⟨z2, rfl, b7, l2⟩
  have S7 := Lib.hid (S6.out.kept b7)
  have B7 := Lib.hid (bel_then B6.out b7)
  have KM := rcmp_any z1 z2 w7 (L1.out.wd HF.out) (Lst.wd l2 HF.out)
  rw [L1.out.same l2] at KM
  have KM := Lib.hid KM
  clear S6 B6 b7 l2 L1
  go_wp2_with fail
  refine KM.out.mono ?_
  rintro _ _ ⟨rfl, rfl⟩
  clear KM
  go_wp2_with fail
  refine (emax_any w7 v1 n F S7.out HF.out (by have := HN.out; omega)).mono ?_
  rintro _ w7 ⟨y1, rfl, rfl, l1⟩
  have L1 := Lib.hid l1
  clear l1
  go_wp2_with fail
  refine (rmax_any w7 v1 n F S7.out HF.out (by have := HN.out; omega)).mono ?_
  rintro _ w8 ⟨y2, rfl, b8, l2⟩
  have B8 := Lib.hid (bel_then B7.out b8)
  have KM := rcmp_any y1 y2 w8 (L1.out.wd HF.out) (Mst.wd l2 HF.out)
  rw [L1.out.same l2] at KM
  have KM := Lib.hid KM
  clear S7 B7 b8 l2 L1
  go_wp2_with fail
  refine KM.out.mono ?_
  rintro _ _ ⟨rfl, rfl⟩
  clear KM
  go_wp2_with fail
  refine (K8.out _).mono ?_
  rintro _ _ ⟨rfl, rfl⟩
  go_wp2_with fail
  refine (K9.out _).mono ?_
  rintro _ _ ⟨rfl, rfl⟩
  go_wp2_with fail
  refine (KC.out _).mono ?_
  rintro _ _ ⟨rfl, rfl⟩
  go_wp2_with fail
  refine (KQ.out _).mono ?_
  rintro _ _ ⟨rfl, rfl⟩
  clear K8 K9 KC KQ
  go_wp2_with fail
  refine (awake_any _).mono ?_
  rintro _ w9 ⟨rfl, hb⟩
  go_wp2
  go_ret
  exact ⟨rfl, bel_then B8.out hb⟩
set_option maxHeartbeats 1600000 in
theorem edgeForms_no (a b c : Int) (ao : Option Addr) (n cap : Nat) (w : World) (hn : 200 < n) :
    Calls Try.prog 21 #[.int .u64 a, .int .u64 b, .int .u64 c, .slice ao n cap] w fun e w' => e = .returned (.bool true) ∧ Below w.heap.size w w' := by
  have d1 : decide (200 < (n : Int)) = true := decide_eq_true (by omega)
  have d2 : decide (200 < n) = true := decide_eq_true (by omega)
  clear hn
  go_enter Try.func21, Try.ntmps21
  go_wp2_with fail
  refine (awake_any _).mono ?_
  rintro _ w9 ⟨rfl, hb⟩
  go_wp2
  go_ret
  exact ⟨rfl, hb⟩
theorem edgeForms_walk (a b c : Int) (v : Value) (l : List Int) (w : World) (s : BitSlice w v l) (g : ∀ x ∈ l, (Lit.int .u64 x).wf = true) (ha : (Lit.int .u64 a).wf = true) (hb : (Lit.int .u64 b).wf = true) (hc : (Lit.int .u64 c).wf = true) :
    Calls Try.prog 21 #[.int .u64 a, .int .u64 b, .int .u64 c, v] w fun e w' => e = .returned (.bool true) ∧ Below w.heap.size w w' := by
  obtain ⟨F, hF, hs⟩ := bits_fn s g
  by_cases h : 200 < l.length
  · obtain ⟨ao, cap, rfl⟩ := hs.form
    exact edgeForms_no a b c ao _ cap w h
  · obtain ⟨x, rfl, wx⟩ := wd_of_wf ha
    obtain ⟨y, rfl, wy⟩ := wd_of_wf hb
    obtain ⟨z, rfl, wz⟩ := wd_of_wf hc
    exact edgeForms_some x y z v l.length F w wx wy wz hs hF (by omega)
end Go.Proofs.Ytfhcgnkjncfeiaa
