/- The walk of EdgeSorts. -/
import Derived.Test.YtfhcgnkjncfeiaaSm
import Derived.StillTailTactics
import Derived.Deep.RegionWith
namespace Go.Proofs.Ytfhcgnkjncfeiaa
open Go.ChangeShapes Go.WideShapes Go.RowKit Fl

theorem own_slF2 {w : World} {base n : Nat} {v : Value} {F : Nat → Nat} (h : w.ownsRow base 25 1 v n (rowF F n)) : SlF w v n F := by
  by_cases e : n = 0
  · obtain ⟨ao, cap, hv⟩ := own_form h
    subst e
    exact Or.inl ⟨ao, cap, hv, rfl⟩
  · exact own_slF h (fun e2 => absurd e2 e)
theorem cutt_of {w : World} {base n kk : Nat} {v : Value} {F : Nat → Nat} (h : w.ownsRow base 25 1 v n (rowF F n)) (hz : n = 0 → v = .slice none 0 0) (hk : kk ≤ n) : ∃ v3 v7, Cutt w v v3 v7 kk n F := by
  by_cases e : n = 0
  · subst e
    exact ⟨.slice none 0 0, .slice none 0 0, Or.inl ⟨hz rfl, rfl, rfl, rfl, by omega⟩⟩
  · obtain ⟨g, cap, hv, _, _, h1, h2, h3⟩ := own_at h (by omega)
    exact ⟨_, _, Or.inr ⟨g, cap, hv, rfl, rfl, by omega, hk, h1, h2, fun j hj => by have := h3 j hj; rw [Nat.zero_add] at this; rw [this]; exact rowF_get F n j hj⟩⟩
theorem Cutt.keep {w w' : World} {mv v3 v7 : Value} {k n : Nat} {F : Nat → Nat} (h : Cutt w mv v3 v7 k n F) (hb : Below w.heap.size w w') : Cutt w' mv v3 v7 k n F := by
  rcases h with h | ⟨g, cap, h1, h2, h3, h4, h5, h6, h7, h8⟩
  · exact Or.inl h
  · exact Or.inr ⟨g, cap, h1, h2, h3, h4, h5, h6, h7, fun j hj => cell_kept hb (h8 j hj)⟩

theorem emin_more {w : World} {v : Value} {n : Nat} {F : Nat → Nat} (h : SlF w v n F) (hF : ∀ j, Wd (F j)) (hn : n ≤ 100000) (h0 : 0 < n) (x : Extra) :
    Calls Try.prog 44 #[v] (more w x) fun e w' => e = .returned (.float .f64 (minAt F (n - 1))) ∧ Below (more w x).heap.size (more w x) w' := by
  rcases h.kept (more_below w x) with ⟨_, _, _, e⟩ | ⟨b, off, cap, rfl, _, _, _, h3⟩
  · omega
  · refine (min_any F b off cap n (more w x) h0 (by omega) (fun j _ => hF j) h3).mono fun _ _ ⟨e, hw⟩ => ⟨e, ?_⟩
    rw [← hw]; exact Below.refl _ _
theorem emax_more {w : World} {v : Value} {n : Nat} {F : Nat → Nat} (h : SlF w v n F) (hF : ∀ j, Wd (F j)) (hn : n ≤ 100000) (h0 : 0 < n) (x : Extra) :
    Calls Try.prog 45 #[v] (more w x) fun e w' => e = .returned (.float .f64 (maxAt F (n - 1))) ∧ Below (more w x).heap.size (more w x) w' := by
  rcases h.kept (more_below w x) with ⟨_, _, _, e⟩ | ⟨b, off, cap, rfl, _, _, _, h3⟩
  · omega
  · refine (max_any F b off cap n (more w x) h0 (by omega) (fun j _ => hF j) h3).mono fun _ _ ⟨e, hw⟩ => ⟨e, ?_⟩
    rw [← hw]; exact Below.refl _ _
theorem same_more {w : World} {a b : Nat} (wa : Wd a) (wb : Wd b) (h : rank a = rank b) (x : Extra) :
    Calls Try.prog 30 #[.float .f64 a, .float .f64 b] (more w x) fun e w' => e = .returned (.bool true) ∧ Below (more w x).heap.size (more w x) w' := by
  refine (same_any a b (more w x) wa wb).mono fun _ _ ⟨e, hw⟩ => ⟨?_, ?_⟩
  · rw [e, decide_eq_true ((ecmp_eq_iff a b).2 h)]
  · rw [← hw]; exact Below.refl _ _
theorem first_at {F R : Nat → Nat} {n : Nat} (h : (first F n).Perm (first R n)) {j : Nat} (hj : j < n) : ∃ i, i < n ∧ R i = F j := by
  have h1 : F j ∈ first F n := List.mem_iff_getElem?.2 ⟨j, first_get F n j hj⟩
  obtain ⟨i, hi⟩ := List.mem_iff_getElem?.1 (h.mem_iff.1 h1)
  have hin : i < n := by
    rcases Nat.lt_or_ge i n with h2 | h2
    · exact h2
    · rw [List.getElem?_eq_none (by rw [first_len]; exact h2)] at hi; cases hi
  rw [first_get R n i hin] at hi
  exact ⟨i, hin, by simpa using hi⟩
theorem ends_min {F R : Nat → Nat} {n : Nat} (h : (first R n).Perm (first F n)) (ho : Ordd R 0 n) (h0 : 0 < n) : rank (minAt F (n - 1)) = rank (R 0) := by
  obtain ⟨j, hj, ej⟩ := minAt_in F (n - 1)
  obtain ⟨i, hi, ei⟩ := first_at h.symm (j := j) (by omega)
  obtain ⟨q, hq, eq⟩ := first_at h (j := 0) h0
  have h1 := minAt_le F (n - 1) q (by omega)
  have h2 := ho.le (Nat.le_refl 0) (Nat.zero_le i) hi
  rw [eq] at h1
  rw [ei, ← ej] at h2
  omega
theorem ends_max {F R : Nat → Nat} {n : Nat} (h : (first R n).Perm (first F n)) (ho : Ordd R 0 n) (h0 : 0 < n) : rank (maxAt F (n - 1)) = rank (R (n - 1)) := by
  obtain ⟨j, hj, ej⟩ := maxAt_in F (n - 1)
  obtain ⟨i, hi, ei⟩ := first_at h.symm (j := j) (by omega)
  obtain ⟨q, hq, eq⟩ := first_at h (j := n - 1) (by omega)
  have h1 := maxAt_le F (n - 1) q (by omega)
  have h2 := ho.le (Nat.zero_le i) (show i ≤ n - 1 by omega) (show n - 1 < n by omega)
  rw [eq] at h1
  rw [ei, ← ej] at h2
  omega

theorem lt_of_cell {w : World} {g i : Nat} {v : Value} (h : cellAt (obj w g) i = some v) : g < w.heap.size := by
  cases ho : obj w g with
  | none => rw [ho] at h; simp [cellAt] at h
  | some o => exact lt_of_obj ho

set_option maxRecDepth 100000 in
set_option maxHeartbeats 12800000 in
theorem sorts_some (tz : Int) (v : Value) (n : Nat) (F : Nat → Nat) (w : World) (h : SlU w v n F) (hF : ∀ j, Wd (F j)) (hn : n ≤ 100) :
    Calls Try.prog 22 #[v, .int .i64 tz] w fun e w' => e = .returned (.bool true) ∧ Below w.heap.size w w' := by
  have d1 : decide (100 < (n : Int)) = false := decide_eq_false (by omega)
  have d2 : decide (100 < n) = false := decide_eq_false (by omega)
  obtain ⟨i0, hi0, hz0, hz1, hz2⟩ := info_parts info25
  have hb0 : 0 ≤ IntKind.u64.wrap tz := by rw [IntKind.wrap_u64]; omega
  obtain ⟨N1, hN1⟩ : ∃ N1, n + 1 = N1 := ⟨_, rfl⟩
  obtain ⟨kk, hkk⟩ := Int.eq_ofNat_of_zero_le (Int.tmod_nonneg (N1 : Int) hb0)
  have hklt := Int.tmod_lt_of_pos (IntKind.u64.wrap tz) (by omega : (0 : Int) < (N1 : Int))
  rw [hkk] at hklt
  have hkn : kk ≤ n := by omega
  have HF := Lib.hid hF
  have HN := Lib.hid hn
  have HK := Lib.hid hkk
  have HKN := Lib.hid hkn
  have HN1 := Lib.hid hN1
  clear hb0 hklt hkk
  have KO := Lib.hid (of_any w v n F h (by omega))
  have w1 : IntKind.i64.wrap ((n : Int) + 1) = (N1 : Int) := by rw [IntKind.wrap_i64]; omega
  have w2 : IntKind.u64.wrap (N1 : Int) = (N1 : Int) := by rw [IntKind.wrap_u64]; omega
  have nz : ¬ (N1 : Int) = 0 := by omega
  have nz' : ¬ N1 = 0 := by omega
  have wk : wrap64 (kk : Int) = kk := by unfold wrap64; omega
  obtain ⟨ao, cap, rfl⟩ := h.form
  clear h hF hn hN1 hkn
  go_enter Try.func22, Try.ntmps22
  go_wp2_with fail
  refine KO.out.mono ?_
  rintro _ w1' ⟨v1, rfl, o1, z1, b1⟩
  have S1 := Lib.hid (own_slF o1 z1)
  have B1 := Lib.hid b1
  have CT := Lib.hid (cutt_of o1 z1 HKN.out)
  obtain ⟨ao1, cap1, rfl⟩ := own_form o1
  clear KO o1 z1 b1
  have hkk := HK.out
  go_wp2_with fail
  clear hkk
  refine (esort_any w1' (.slice ao1 n cap1) n F S1.out HF.out (by have := HN.out; omega)).mono ?_
  rintro _ wr ⟨v7a, R7, rfl, s7, p7, o7, x7, b7⟩
  obtain ⟨v3, v7, hct⟩ := CT.out
  have HC := Lib.hid (hct.keep b7)
  have B7 := Lib.hid (bel_then B1.out b7)
  have SM := Lib.hid (S1.out.kept b7)
  obtain ⟨ao7, cap7, rfl⟩ := s7.form
  have S7 := Lib.hid s7
  have P7 := Lib.hid (And.intro p7 (And.intro o7 x7))
  clear s7 p7 o7 x7 b7 hct CT B1 S1
  go_wp2_with fail
  refine wp_region_slots 105 (fun T0 d T w' => SrtI wr F (.slice ao1 n cap1) v3 v7 kk n T0 d T w' ∧ T0 5 = .slice ao1 n cap1 ∧ T0 6 = .int .i64 kk)
    (by kernel_rfl) (by kernel_rfl) rfl rfl ?_ ?_ ?_
  · refine ⟨⟨Facts.start (by simp [srtL]), Ord.start (by simp [srtO]), fun _ _ => rfl, ?_⟩, rfl, rfl⟩
    exact ⟨(Below.refl _ _).drew, fun e => (by cases e), fun e => (by cases e), fun e => (by cases e), fun e => (by cases e), fun e => (by cases e)⟩
  · intro T0
    refine ⟨?_, ?_, ?_, ?_, ?_, ?_, ?_, ?_, ?_, ?_, ?_, trivial⟩
    · refine keeps_of' rfl ?_
      rintro d T w1 hd ha ⟨⟨hF, hO, hT, hW⟩, h5, h6⟩ K hK
      have o4 := hO.not (x := 4) (y := 0) (by simp [srtO]) hd
      have o8 := hO.not (x := 8) (y := 4) (by simp [srtO]) o4
      have o9 := hO.not (x := 9) (y := 8) (by simp [srtO]) o8
      have o10 := hO.not (x := 10) (y := 9) (by simp [srtO]) o9
      go_simp
      refine hK _ _ ⟨⟨hF.step 0 26 _ (by simp [srtL]), hO.step 0 (by simp [srtO]), fun x hx => by unfold upd; rw [if_neg (by omega)]; exact hT x hx, ?_⟩, h5, h6⟩
      show SrtW _ _ _ _ true (d 4) (d 8) (d 9) (d 10) _ (T 30) (T 34) (T 35) (T 8) _
      rw [o4, o8, o9, o10]
      exact ⟨hW.hb.alloc hW.hb.size _, fun _ _ => World.ownsRow_made (e := 25) (size := 1) w1 #[] 0 hW.hb.size (by unfold maxLen; omega) rfl, fun e => (by cases e), fun e => (by cases e), fun e => (by cases e), fun e => (by cases e)⟩
    · refine keeps_of' rfl ?_
      rintro d T w1 hd ha ⟨hG, h5, h6⟩ K hK
      have e := (hG.2.2.1 5 (by decide)).trans h5
      go_simp
      exact hK _ _ ⟨hG.plain 1 27 _ (by decide) (by decide) (by simp [srtL]), h5, h6⟩
    · refine keeps_of' rfl ?_
      rintro d T w1 hd ha ⟨hG, h5, h6⟩ K hK
      have e := (hG.2.2.1 6 (by decide)).trans h6
      go_simp
      exact hK _ _ ⟨hG.plain 2 28 _ (by decide) (by decide) (by simp [srtL]), h5, h6⟩
    · refine keeps_of' rfl ?_
      rintro d T w1 hd ha ⟨hG, h5, h6⟩ K hK
      have e1 := hG.1 (1, 27, .slice ao1 n cap1) (by simp [srtL]) (ha 1 (by decide))
      have e2 := hG.1 (2, 28, .int .i64 kk) (by simp [srtL]) (ha 2 (by decide))
      simp only at e1 e2
      rcases HC.out with ⟨q1, q3, q7, q0, qk⟩ | ⟨g, c, q1, q3, q7, n0, kn, nc, cm, _⟩
      · rw [q1] at e1
        rw [qk] at e2
        simp only [Int.natCast_zero] at e2
        have hH := Lib.hid hG
        have q := Lib.hid q3
        clear hG q1 q3 q7 q0 qk
        go_simp
        rw [← q.out]
        exact hK _ _ ⟨hH.out.plain 3 29 _ (by decide) (by decide) (by simp [srtL]), h5, h6⟩
      · rw [q1] at e1
        have x1 : (0 : Int) ≤ (kk : Int) := Int.natCast_nonneg kk
        have x2 : (kk : Int) ≤ (n : Int) := by omega
        have x3 : (n : Int) ≤ (c : Int) := by omega
        have x5 : ((n : Int) - (kk : Int)).toNat = n - kk := by omega
        have x6 : ((c : Int) - (kk : Int)).toNat = c - kk := by omega
        have x8 : (kk : Int) ≤ (c : Int) := by omega
        have x9 : ¬ c = 0 := by omega
        have hH := Lib.hid hG
        have q := Lib.hid q3
        clear hG q1 q3 q7
        by_cases hck : c = kk
        · have x4 : c - kk = 0 := by omega
          have HCK := Lib.hid hck
          clear n0 kn nc cm
          go_simp
          have e9 := q.out
          rw [if_pos HCK.out, x4] at e9
          rw [← e9]
          exact hK _ _ ⟨hH.out.plain 3 29 _ (by decide) (by decide) (by simp [srtL]), h5, h6⟩
        · have x4 : ¬ c - kk = 0 := by omega
          clear n0 kn nc cm
          go_simp
          have e9 := q.out
          rw [if_neg hck] at e9
          rw [← e9]
          exact hK _ _ ⟨hH.out.plain 3 29 _ (by decide) (by decide) (by simp [srtL]), h5, h6⟩
    · refine keeps_of' rfl ?_
      rintro d T w1 hd ha ⟨⟨hF, hO, hT, hW⟩, h5, h6⟩ K hK
      have e2 := hF (3, 29, v3) (by simp [srtL]) (ha 3 (by decide))
      simp only at e2
      have o0 := ha 0 (by decide)
      have o8 := hO.not (x := 8) (y := 4) (by simp [srtO]) hd
      have o9 := hO.not (x := 9) (y := 8) (by simp [srtO]) o8
      have o10 := hO.not (x := 10) (y := 9) (by simp [srtO]) o9
      have hrow := hW.r0 o0 hd
      have l1 := HKN.out
      have l2 := HN.out
      refine wp_append_src (.tmp 26) (.tmp 29) 60 (by rfl) wr.heap.size 25 i0 _ Try.underlying60 hi0 hz0 hz1 hz2 rfl (T 26) 0 _ (actOf_eval 105 T 26 (by decide)) hrow v3 (n - kk) (fun x => F (kk + x))
        ((actOf_eval 105 T 29 (by decide)).trans e2) HC.out.src3 hW.hb (by omega) hW.hb.size ?_
      intro v' w3 hown hgrow
      rw [actOf_put 105 T 30 _ (by decide)]
      refine hK _ _ ⟨⟨hF.step 4 30 _ (by simp [srtL]), hO.step 4 (by simp [srtO, o0]), fun x hx => by unfold upd; rw [if_neg (by omega)]; exact hT x hx, ?_⟩, h5, h6⟩
      show SrtW _ _ _ _ (d 0) true (d 8) (d 9) (d 10) (T 26) _ (T 34) (T 35) (T 8) _
      rw [o8, o9, o10]
      refine ⟨hW.hb.grown hgrow hW.hb.size (fun x hx => (hrow.lt x hx).1), fun _ e => (by cases e), fun _ _ => ?_, fun e => (by cases e), fun e => (by cases e), fun e => (by cases e)⟩
      simp only [Nat.zero_add, List.nil_append] at hown
      exact hown
    · refine keeps_of' rfl ?_
      rintro d T w1 hd ha ⟨hG, h5, h6⟩ K hK
      have e := (hG.2.2.1 5 (by decide)).trans h5
      go_simp
      exact hK _ _ ⟨hG.plain 5 31 _ (by decide) (by decide) (by simp [srtL]), h5, h6⟩
    · refine keeps_of' rfl ?_
      rintro d T w1 hd ha ⟨hG, h5, h6⟩ K hK
      have e := (hG.2.2.1 6 (by decide)).trans h6
      go_simp
      exact hK _ _ ⟨hG.plain 6 32 _ (by decide) (by decide) (by simp [srtL]), h5, h6⟩
    · refine keeps_of' rfl ?_
      rintro d T w1 hd ha ⟨hG, h5, h6⟩ K hK
      have e1 := hG.1 (5, 31, .slice ao1 n cap1) (by simp [srtL]) (ha 5 (by decide))
      have e2 := hG.1 (6, 32, .int .i64 kk) (by simp [srtL]) (ha 6 (by decide))
      simp only at e1 e2
      rcases HC.out with ⟨q1, q3, q7, q0, qk⟩ | ⟨g, c, q1, q3, q7, n0, kn, nc, cm, _⟩
      · rw [q1] at e1
        rw [qk] at e2
        simp only [Int.natCast_zero] at e2
        have hH := Lib.hid hG
        have q := Lib.hid q7
        clear hG q1 q3 q7 q0 qk
        go_simp
        rw [← q.out]
        exact hK _ _ ⟨hH.out.plain 7 33 _ (by decide) (by decide) (by simp [srtL]), h5, h6⟩
      · rw [q1] at e1
        have x1 : (0 : Int) ≤ (kk : Int) := Int.natCast_nonneg kk
        have x2 : (kk : Int) ≤ (n : Int) := by omega
        have x3 : (n : Int) ≤ (c : Int) := by omega
        have x5 : ((n : Int) - (kk : Int)).toNat = n - kk := by omega
        have x6 : ((c : Int) - (kk : Int)).toNat = c - kk := by omega
        have x8 : (kk : Int) ≤ (c : Int) := by omega
        have x9 : ¬ c = 0 := by omega
        have hH := Lib.hid hG
        have q := Lib.hid q7
        clear hG q1 q3 q7
        clear n0 kn nc cm
        go_simp
        rw [← q.out]
        exact hK _ _ ⟨hH.out.plain 7 33 _ (by decide) (by decide) (by simp [srtL]), h5, h6⟩
    · refine keeps_of' rfl ?_
      rintro d T w1 hd ha ⟨⟨hF, hO, hT, hW⟩, h5, h6⟩ K hK
      have e2 := hF (7, 33, v7) (by simp [srtL]) (ha 7 (by decide))
      simp only at e2
      have o4 := ha 4 (by decide)
      have o9 := hO.not (x := 9) (y := 8) (by simp [srtO]) hd
      have o10 := hO.not (x := 10) (y := 9) (by simp [srtO]) o9
      have hrow := hW.r4 o4 hd
      have l1 := HKN.out
      have l2 := HN.out
      refine wp_append_src (.tmp 30) (.tmp 33) 60 (by rfl) wr.heap.size 25 i0 _ Try.underlying60 hi0 hz0 hz1 hz2 rfl (T 30) (n - kk) _ (actOf_eval 105 T 30 (by decide)) hrow v7 kk F
        ((actOf_eval 105 T 33 (by decide)).trans e2) HC.out.src7 hW.hb (by omega) hW.hb.size ?_
      intro v' w3 hown hgrow
      rw [actOf_put 105 T 34 _ (by decide)]
      refine hK _ _ ⟨⟨hF.step 8 34 _ (by simp [srtL]), hO.step 8 (by simp [srtO, o4]), fun x hx => by unfold upd; rw [if_neg (by omega)]; exact hT x hx, ?_⟩, h5, h6⟩
      show SrtW _ _ _ _ (d 0) (d 4) true (d 9) (d 10) (T 26) (T 30) _ (T 35) (T 8) _
      rw [o4, o9, o10]
      refine ⟨hW.hb.grown hgrow hW.hb.size (fun x hx => (hrow.lt x hx).1), fun _ e => (by cases e), fun _ e => (by cases e), fun _ _ => ?_, fun e => (by cases e), fun e => (by cases e)⟩
      rw [turnF_row F kk n l1, show n - kk + kk = n by omega] at hown
      exact hown
    · refine keeps_of' rfl ?_
      rintro d T w1 hd ha ⟨⟨hF, hO, hT, hW⟩, h5, h6⟩ K hK
      have o8 := ha 8 (by decide)
      have o10 := hO.not (x := 10) (y := 9) (by simp [srtO]) hd
      have hrow := hW.r8 o8 hd
      have hsl := own_slF2 hrow
      have KE := Lib.hid (esort_any w1 (T 34) n (turnF F kk n) hsl (turnF_wd kk n HF.out) (by have := HN.out; omega))
      have l1 := Lib.hid HKN.out
      clear hsl
      go_simp
      refine KE.out.mono ?_
      rintro _ w3 ⟨v9, R9, rfl, s9, p9, q9, x9, b9⟩
      show K ((actOf 105 T).put (some 35) v9) w3
      rw [actOf_put 105 T 35 _ (by decide)]
      refine hK _ _ ⟨⟨hF.step 9 35 _ (by simp [srtL]), hO.step 9 (by simp [srtO, o8]), fun x hx => by unfold upd; rw [if_neg (by omega)]; exact hT x hx, ?_⟩, h5, h6⟩
      show SrtW _ _ _ _ (d 0) (d 4) (d 8) true (d 10) (T 26) (T 30) (T 34) _ (T 8) _
      have o4 := hO (8, 4) (by simp [srtO]) o8
      have o0 := hO (4, 0) (by simp [srtO]) o4
      rw [o8, o4, o0, o10]
      exact ⟨bel_then hW.hb b9, fun _ e => (by cases e), fun _ e => (by cases e), fun _ e => (by cases e), fun _ => ⟨R9, s9, p9.trans (turnF_perm F kk n l1.out), q9, x9⟩, fun e => (by cases e)⟩
    · refine keeps_of' rfl ?_
      rintro d T w1 hd ha ⟨⟨hF, hO, hT, hW⟩, h5, h6⟩ K hK
      have o9 := ha 9 (by decide)
      go_simp
      refine hK _ _ ⟨⟨hF.step 10 8 (T 35) (by simp [srtL]), hO.step 10 (by simp [srtO, o9]), fun x hx => by unfold upd; rw [if_neg (by omega)]; exact hT x hx, ?_⟩, h5, h6⟩
      show SrtW _ _ _ _ (d 0) (d 4) (d 8) (d 9) true (T 26) (T 30) (T 34) (T 35) (T 35) _
      exact ⟨hW.hb, hW.r0, hW.r4, hW.r8, hW.r9, fun _ => rfl⟩
  · rintro T w3 ⟨⟨_, _, hT, hW⟩, h5, h6⟩
    have e : actOf 105 T = ⟨#[T 0, T 1, T 2, T 3, T 4, T 5, T 6, T 7, T 8, T 9, T 10, T 11, T 12, T 13, T 14, T 15, T 16, T 17, T 18, T 19, T 20, T 21, T 22, T 23, T 24, T 25, T 26, T 27, T 28, T 29, T 30, T 31, T 32, T 33, T 34, T 35, T 36, T 37, T 38, T 39, T 40, T 41, T 42, T 43, T 44, T 45, T 46, T 47, T 48, T 49, T 50, T 51, T 52, T 53, T 54, T 55, T 56, T 57, T 58, T 59, T 60, T 61, T 62, T 63, T 64, T 65, T 66, T 67, T 68, T 69, T 70, T 71, T 72, T 73, T 74, T 75, T 76, T 77, T 78, T 79, T 80, T 81, T 82, T 83, T 84, T 85, T 86, T 87, T 88, T 89, T 90, T 91, T 92, T 93, T 94, T 95, T 96, T 97, T 98, T 99, T 100, T 101, T 102, T 103, T 104], []⟩ := rfl
    rw [e]
    have t5 : T 5 = .slice ao1 n cap1 := (hT 5 (by decide)).trans h5
    have t7 : T 7 = .slice ao7 n cap7 := hT 7 (by decide)
    obtain ⟨R8, s8, p8, o8, x8⟩ := hW.r9 rfl
    rw [← hW.r10 rfl] at s8
    obtain ⟨ao8, cap8, t8⟩ := s8.form
    rw [t8] at s8
    rw [t5, t7, t8]
    have B8 := Lib.hid (bel_then B7.out hW.hb)
    have M8 := Lib.hid (SM.out.kept hW.hb)
    have A8 := Lib.hid (S7.out.kept hW.hb)
    have S8 := Lib.hid s8
    have P8 := Lib.hid (And.intro p8 (And.intro o8 x8))
    have hperm : (first R7 n).Perm (first R8 n) := P7.out.1.trans p8.symm
    have K1 := Lib.hid (rows_same w3 (.slice ao7 n cap7) (.slice ao8 n cap8) n R7 R8 A8.out s8 (fun j _ => P7.out.2.2 j) (fun j _ => x8 j) (ord_same hperm P7.out.2.1 o8) (by have := HN.out; omega))
    clear t5 t7 t8 hT hW h5 h6 s8 p8 o8 x8 hperm SM S7 B7
    go_wp2_with fail
    refine K1.out.mono ?_
    rintro _ w4 ⟨rfl, d4, e4⟩
    have B9 := Lib.hid (show Below w.heap.size w w4 by rw [e4]; exact bel_drawn B8.out)
    have M9 := Lib.hid (show SlF w4 (.slice ao1 n cap1) n F by rw [e4]; exact M8.out)
    have A9 := Lib.hid (show SlF w4 (.slice ao7 n cap7) n R7 by rw [e4]; exact A8.out)
    clear K1 B8 M8 A8 S8 P8 e4
    go_wp2_with fail
    refine (esort_any w4 (.slice ao7 n cap7) n R7 A9.out P7.out.2.2 (by have := HN.out; omega)).mono ?_
    rintro _ w5 ⟨v9, R9, rfl, s9, p9, o9, x9, b9⟩
    have A10 := Lib.hid (A9.out.kept b9)
    have M10 := Lib.hid (M9.out.kept b9)
    have B10 := Lib.hid (bel_then B9.out b9)
    have K2 := Lib.hid (rows_same w5 v9 (.slice ao7 n cap7) n R9 R7 s9 A10.out (fun j _ => x9 j) (fun j _ => P7.out.2.2 j) (ord_same p9 o9 P7.out.2.1) (by have := HN.out; omega))
    clear B9 M9 A9 s9 p9 o9 x9 b9
    go_wp2_with fail
    refine K2.out.mono ?_
    rintro _ w6 ⟨rfl, d6, e6⟩
    have B11 := Lib.hid (show Below w.heap.size w w6 by rw [e6]; exact bel_drawn B10.out)
    have M11 := Lib.hid (show SlF w6 (.slice ao1 n cap1) n F by rw [e6]; exact M10.out)
    have A11 := Lib.hid (show SlF w6 (.slice ao7 n cap7) n R7 by rw [e6]; exact A10.out)
    clear K2 B10 M10 A10 e6
    go_wp2_with fail
    go_loopw [9] (fun iv wr2 => ∃ i d : Nat, iv = .int .i64 i ∧ 1 ≤ i ∧ (i ≤ n ∨ i = 1) ∧ wr2 = w6.drewN d) (fun iv _ => n - (intOf iv).toNat)
    case atStart => exact ⟨1, 0, rfl, Nat.le_refl _, Or.inr rfl, rfl⟩
    case round =>
      obtain ⟨i, d, rfl, i1, i2, hwr⟩ := hrel
      have HWR := Lib.hid hwr
      clear hwr
      by_cases hlt : i < n
      · have hltz : (i : Int) < (n : Int) := by omega
        have hnn := HN.out
        obtain ⟨q, hq⟩ : ∃ q, q = i - 1 := ⟨_, rfl⟩
        obtain ⟨i', hi'⟩ : ∃ i', i' = i + 1 := ⟨_, rfl⟩
        have wi : IntKind.i64.wrap ((i : Int) + 1) = (i' : Int) := by rw [IntKind.wrap_i64]; omega
        have wq : IntKind.i64.wrap ((i : Int) - 1) = (q : Int) := by rw [IntKind.wrap_i64]; omega
        have i0 : (0 : Int) ≤ (i : Int) := Int.natCast_nonneg i
        have q0 : (0 : Int) ≤ (q : Int) := Int.natCast_nonneg q
        have q1 : (q : Int) < (n : Int) := by omega
        rcases A11.out with ⟨_, _, _, e⟩ | ⟨b2, o2, c2, e2, _, _, _, hI2⟩
        · exfalso; omega
        obtain ⟨rfl, rfl⟩ : ao7 = some ⟨b2, o2, none⟩ ∧ cap7 = c2 := by simpa using e2
        have ci : cellAt (obj wr b2) (o2 + i) = some (.float .f64 (R7 i)) := by rw [HWR.out]; exact hI2 i hlt
        have cq : cellAt (obj wr b2) (o2 + q) = some (.float .f64 (R7 q)) := by rw [HWR.out]; exact hI2 q (by omega)
        have dc : decide (ecmp (R7 i) (R7 q) < 0) = false := decide_eq_false (fun h => by
          have h1 := (ecmp_lt_iff _ _).1 h
          have h2 := P7.out.2.1 q i (Nat.zero_le _) (by omega) hlt
          omega)
        have KC := Lib.hid (cmp_same (R7 i) (R7 q) (P7.out.2.2 i) (P7.out.2.2 q) wr)
        have HLT := Lib.hid (show i < n ∧ i' = i + 1 from ⟨hlt, hi'⟩)
        clear hlt i1 i2 hq hi' hI2 e2 hnn
        go_wp2_with fail
        refine wp_region_quiet_lit (by kernel_rfl) (by kernel_rfl) ?_
        repeat (go_big_quiet_step ((go_at_call 36; exact Calls.quiet_of_same (KC.out _))))
        refine wpQuiet_nil ?_
        intro _ hw'
        obtain ⟨nq, hw''⟩ := hw'
        subst hw''
        go_wp2_with fail
        exact ⟨⟨i', d + nq, rfl, by have := HLT.out; omega, Or.inl (by have := HLT.out; omega), by rw [HWR.out]; exact World.drewN_drewN ..⟩, by have := HLT.out; simp only [intOf]; omega⟩
      · have hltz : ¬ (i : Int) < (n : Int) := by omega
        have B12 := Lib.hid (show Below w.heap.size w wr by rw [HWR.out]; exact bel_drawn B11.out)
        have M12 := Lib.hid (show SlF wr (.slice ao1 n cap1) n F by rw [HWR.out]; exact M11.out)
        have A12 := Lib.hid (show SlF wr (.slice ao7 n cap7) n R7 by rw [HWR.out]; exact A11.out)
        clear B11 M11 A11 HWR hlt i1 i2
        by_cases h0 : n = 0
        · have z1 : ((n : Int) == 0) = true := by rw [h0]; rfl
          have z2 : decide (n = 0) = true := decide_eq_true h0
          have f1 : feq 9221120237041090561 9221120237041090561 = false := by kernel_rfl
          clear h0
          go_wp2_with (first | (go_at_call 44; refine (min_empty none 0 _).mono ?_; rintro _ _ ⟨rfl, rfl⟩) | (go_at_call 45; refine (max_empty none 0 _).mono ?_; rintro _ _ ⟨rfl, rfl⟩))
          refine (awake_any _).mono ?_
          rintro _ w9 ⟨rfl, hb⟩
          go_wp2
          go_ret
          exact ⟨rfl, bel_then B12.out hb⟩
        · have z1 : ((n : Int) == 0) = false := by simp; exact h0
          have z2 : decide (n = 0) = false := decide_eq_false h0
          have hnn := HN.out
          obtain ⟨q, hq⟩ : ∃ q, q = n - 1 := ⟨_, rfl⟩
          have wq : IntKind.i64.wrap ((n : Int) - 1) = (q : Int) := by rw [IntKind.wrap_i64]; omega
          have n0 : (0 : Int) < (n : Int) := by omega
          have n0' : 0 < n := by omega
          have q0 : (0 : Int) ≤ (q : Int) := Int.natCast_nonneg q
          have q1 : (q : Int) < (n : Int) := by omega
          rcases A12.out with ⟨_, _, _, e⟩ | ⟨b2, o2, c2, e2, _, _, _, hI2⟩
          · exfalso; omega
          obtain ⟨rfl, rfl⟩ : ao7 = some ⟨b2, o2, none⟩ ∧ cap7 = c2 := by simpa using e2
          have c0 : cellAt (obj wr b2) o2 = some (.float .f64 (R7 0)) := hI2 0 n0'
          have cq : cellAt (obj wr b2) (o2 + q) = some (.float .f64 (R7 q)) := hI2 q (by omega)
          have wmn : Wd (minAt F (n - 1)) := by obtain ⟨j, _, e⟩ := minAt_in F (n - 1); rw [e]; exact HF.out j
          have wmx : Wd (maxAt F (n - 1)) := by obtain ⟨j, _, e⟩ := maxAt_in F (n - 1); rw [e]; exact HF.out j
          have KA := Lib.hid (fun x => emin_more M12.out HF.out (by omega) n0' x)
          have KB := Lib.hid (fun x => emax_more M12.out HF.out (by omega) n0' x)
          have KC := Lib.hid (fun x => same_more (w := wr) wmn (P7.out.2.2 0) (ends_min P7.out.1 P7.out.2.1 n0') x)
          have KD := Lib.hid (fun x => same_more (w := wr) wmx (P7.out.2.2 q) (by rw [hq]; exact ends_max P7.out.1 P7.out.2.1 n0') x)
          have lb := lt_of_cell c0
          obtain ⟨A, hA⟩ : ∃ A, minAt F (n - 1) = A := ⟨_, rfl⟩
          obtain ⟨B, hB⟩ : ∃ B, maxAt F (n - 1) = B := ⟨_, rfl⟩
          obtain ⟨C, hC⟩ : ∃ C, R7 0 = C := ⟨_, rfl⟩
          obtain ⟨D, hD⟩ : ∃ D, R7 q = D := ⟨_, rfl⟩
          rw [hA] at KA KC
          rw [hB] at KB KD
          rw [hC] at KC c0
          rw [hD] at KD cq
          clear hI2 e2 hnn hq h0 n0' hA hB hC hD M12 A12 wmn wmx P7
          go_wp2_with fail
          refine wp_region_more (by kernel_rfl) (by kernel_rfl) ?_
          repeat (go_big_quiet_step ((first | (go_at_call 44; exact more_call (KA.out _)) | (go_at_call 45; exact more_call (KB.out _)) | (go_at_call_of 30 A; exact more_call (KC.out _)) | (go_at_call_of 30 B; exact more_call (KD.out _)) | (go_at_call 37; exact more_call (awake_any _)))))
          refine wpQuiet_nil ?_
          intro _ hw'
          obtain ⟨y, hw''⟩ := hw'
          subst hw''
          go_wp2_with fail
          go_ret
          exact ⟨rfl, bel_then B12.out (more_below wr y)⟩
set_option maxHeartbeats 1600000 in
theorem sorts_no (tz : Int) (ao : Option Addr) (n cap : Nat) (w : World) (hn : 100 < n) :
    Calls Try.prog 22 #[.slice ao n cap, .int .i64 tz] w fun e w' => e = .returned (.bool true) ∧ Below w.heap.size w w' := by
  have d1 : decide (100 < (n : Int)) = true := decide_eq_true (by omega)
  have d2 : decide (100 < n) = true := decide_eq_true (by omega)
  clear hn
  go_enter Try.func22, Try.ntmps22
  go_wp2_with fail
  refine (awake_any _).mono ?_
  rintro _ w9 ⟨rfl, hb⟩
  go_wp2
  go_ret
  exact ⟨rfl, hb⟩
theorem sorts_walk (v : Value) (l : List Int) (tz : Int) (w : World) (s : BitSlice w v l) (g : ∀ x ∈ l, (Lit.int .u64 x).wf = true) (_ : (Lit.int .i64 tz).wf = true) :
    Calls Try.prog 22 #[v, .int .i64 tz] w fun e w' => e = .returned (.bool true) ∧ Below w.heap.size w w' := by
  obtain ⟨F, hF, hs⟩ := bits_fn s g
  by_cases h : 100 < l.length
  · obtain ⟨ao, cap, rfl⟩ := hs.form
    exact sorts_no tz ao _ cap w h
  · exact sorts_some tz v l.length F w hs hF (by omega)
end Go.Proofs.Ytfhcgnkjncfeiaa
