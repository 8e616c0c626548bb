/- slices.stableCmpFunc, SortStableFunc. -/
import Derived.Test.YtfhcgnkjncfeiaaSg
namespace Go.Proofs.Ytfhcgnkjncfeiaa
open Go.ChangeShapes Go.WideShapes Go.RowKit Fl

/-- in order within blocks of bs -/
def Blk (R : Nat → Nat) (bs n : Nat) : Prop := ∀ k, Ordd R (k * bs) (min ((k + 1) * bs) n)
structure Md (R : Nat → Nat) (bs n q a : Nat) : Prop where
  ha : a = q * (2 * bs)
  lo : ∀ k, k < q → Ordd R (k * (2 * bs)) ((k + 1) * (2 * bs))
  hi : ∀ k, 2 * q ≤ k → Ordd R (k * bs) (min ((k + 1) * bs) n)
section
variable {R R' : Nat → Nat} {bs n q a : Nat}
theorem mul_le' {k q : Nat} (h : k < q) (B : Nat) : (k + 1) * B ≤ q * B := Nat.mul_le_mul_right B h
theorem mul_two (q bs : Nat) : (2 * q) * bs = q * (2 * bs) ∧ (2 * q + 1) * bs = q * (2 * bs) + bs ∧ (2 * q + 1 + 1) * bs = q * (2 * bs) + 2 * bs ∧ (q + 1) * (2 * bs) = q * (2 * bs) + 2 * bs := by
  have e : (2 * q) * bs = q * (2 * bs) := by rw [Nat.mul_comm 2 q, Nat.mul_assoc]
  refine ⟨e, ?_, ?_, ?_⟩
  · rw [Nat.succ_mul, e]
  · rw [Nat.succ_mul, Nat.succ_mul, e]; omega
  · rw [Nat.succ_mul]
theorem Md.start (h : Blk R bs n) : Md R bs n 0 0 := ⟨by omega, fun k hk => by omega, fun k _ => h k⟩
theorem Md.blocks (h : Md R bs n q a) (hb : a + 2 * bs ≤ n) : Ordd R a (a + bs) ∧ Ordd R (a + bs) (a + 2 * bs) := by
  obtain ⟨m1, m2, m3, m4⟩ := mul_two q bs
  have h0 := h.hi (2 * q) (Nat.le_refl _)
  have h1 := h.hi (2 * q + 1) (by omega)
  rw [m1, m2, ← h.ha, Nat.min_eq_left (by omega)] at h0
  rw [m2, m3, ← h.ha, Nat.min_eq_left (by omega)] at h1
  exact ⟨h0, h1⟩
theorem Md.blocks' (h : Md R bs n q a) (hb : n < a + 2 * bs) (hm : a + bs < n) : Ordd R a (a + bs) ∧ Ordd R (a + bs) n := by
  obtain ⟨m1, m2, m3, m4⟩ := mul_two q bs
  have h0 := h.hi (2 * q) (Nat.le_refl _)
  have h1 := h.hi (2 * q + 1) (by omega)
  rw [m1, m2, ← h.ha, Nat.min_eq_left (by omega)] at h0
  rw [m2, m3, ← h.ha, Nat.min_eq_right (by omega)] at h1
  exact ⟨h0, h1⟩
theorem Md.last (h : Md R bs n q a) (hm : n ≤ a + bs) : Ordd R a n := by
  obtain ⟨m1, m2, m3, m4⟩ := mul_two q bs
  have h0 := h.hi (2 * q) (Nat.le_refl _)
  rw [m1, m2, ← h.ha, Nat.min_eq_right (by omega)] at h0
  exact h0
theorem Md.step (h : Md R bs n q a) (hs : Seg a (a + 2 * bs) n R R') (ho : Ordd R' a (a + 2 * bs)) : Md R' bs n (q + 1) (a + 2 * bs) := by
  obtain ⟨m1, m2, m3, m4⟩ := mul_two q bs
  refine ⟨by rw [m4, ← h.ha], fun k hk => ?_, fun k hk => ?_⟩
  · by_cases e : k = q
    · subst e; rw [m4, ← h.ha]; exact ho
    · have := mul_le' (show k < q by omega) (2 * bs)
      rw [← h.ha] at this
      exact (h.lo k (by omega)).congr fun x _ hx => hs.1 x (Or.inl (by omega))
  · have := Nat.mul_le_mul_right bs (show 2 * q + 1 + 1 ≤ k by omega)
    rw [m3, ← h.ha] at this
    exact (h.hi k (by omega)).congr fun x hx _ => hs.1 x (Or.inr (by omega))
theorem Md.fin (h : Md R bs n q a) (hs : Seg a n n R R') (ho : Ordd R' a n) (hb : n < a + 2 * bs) : Blk R' (2 * bs) n := by
  obtain ⟨m1, m2, m3, m4⟩ := mul_two q bs
  intro k
  by_cases e : k < q
  · have := mul_le' e (2 * bs)
    rw [← h.ha] at this
    exact ((h.lo k e).congr fun x _ hx => hs.1 x (Or.inl (by omega))).mono (Nat.le_refl _) (Nat.min_le_left ..)
  · by_cases e2 : k = q
    · subst e2; rw [m4, ← h.ha, Nat.min_eq_right (by omega)]; exact ho
    · have := mul_le' (show q < k by omega) (2 * bs)
      rw [m4, ← h.ha] at this
      intro i j hi hij hj
      have := Nat.min_le_right ((k + 1) * (2 * bs)) n
      omega
end
theorem blk_start {R : Nat → Nat} {n k a : Nat} (ha : a = 20 * k) (hlo : ∀ j, j < k → Ordd R (20 * j) (20 * j + 20)) (ho : Ordd R a n) (hb : n < a + 20) : Blk R 20 n := by
  intro j
  by_cases e : j < k
  · exact (hlo j e).mono (by omega) (by have := Nat.min_le_left ((j + 1) * 20) n; omega)
  · by_cases e2 : j = k
    · exact ho.mono (by omega) (Nat.min_le_right ..)
    · intro x y hx hxy hy
      have := Nat.min_le_right ((j + 1) * 20) n
      omega

set_option maxRecDepth 100000 in
set_option maxHeartbeats 6400000 in
theorem stable_any {w w0 : World} {base g n : Nat} {R : Nat → Nat} (h : RowG w w0 base g n R) (hR : ∀ j, Wd (R j)) (cap : Nat) (hn : n ≤ 100000) :
    Calls Try.prog 90 #[.slice (some ⟨g, 0, none⟩) n cap, .int .i64 n, CMPF] w fun e w' => e = .returned (.tuple #[]) ∧ ∃ R', RowG w' w0 base g n R' ∧ Seg 0 n n R R' ∧ Ordd R' 0 n := by
  have H := Lib.hid h
  have HW := Lib.hid hR
  have HN := Lib.hid hn
  clear h hR hn
  unfold CMPF
  go_enter Try.func90, Try.ntmps90
  go_wp2_with fail
  go_loopw [7, 8] (fun av bv wr => ∃ k a b : Nat, av = .int .i64 a ∧ bv = .int .i64 b ∧ a = 20 * k ∧ b = a + 20 ∧ a ≤ n ∧ ∃ R', RowG wr w0 base g n R' ∧ Seg 0 n n R R' ∧ ∀ j, j < k → Ordd R' (20 * j) (20 * j + 20)) (fun _ bv _ => n + 21 - (intOf bv).toNat)
  case atStart => exact ⟨0, 0, 20, rfl, rfl, rfl, rfl, Nat.zero_le _, R, H.out, Seg.refl .., fun j hj => by omega⟩
  case round =>
    obtain ⟨k, a, b, rfl, rfl, ha, hb, han, R1, hr, hs, ho⟩ := hrel
    have hnn := HN.out
    by_cases hlt : b ≤ n
    · have hltz : (b : Int) ≤ (n : Int) := by omega
      have d1 : decide (b ≤ n) = true := decide_eq_true hlt
      have wb : IntKind.i64.wrap ((b : Int) + 20) = ((b + 20 : Nat) : Int) := by rw [IntKind.wrap_i64]; omega
      obtain ⟨b', hb'⟩ : ∃ b', b' = b + 20 := ⟨_, rfl⟩
      rw [← hb'] at wb
      have K := insertion_any hr (hs.wd HW.out) cap a b (by omega) hlt hnn
      unfold CMPF at K
      have K := Lib.hid K
      have HS := Lib.hid hs
      have HO := Lib.hid ho
      have HB := Lib.hid (show a = 20 * k ∧ b = a + 20 ∧ b' = b + 20 ∧ b ≤ n from ⟨ha, hb, hb', hlt⟩)
      clear hr hs ho ha hb han hb' hlt hnn
      go_wp2_with fail
      refine K.out.mono ?_
      rintro _ w5 ⟨rfl, R2, h5, s5, o5⟩
      have H5 := Lib.hid h5
      have S5 := Lib.hid (HS.out.trans (s5.mono (Nat.zero_le _) HB.out.2.2.2))
      have O5 := Lib.hid (show ∀ j, j < k + 1 → Ordd R2 (20 * j) (20 * j + 20) from fun j hj => by
        by_cases e : j = k
        · have := HB.out; subst e; rw [← this.1, ← this.2.1]; exact o5
        · exact (HO.out j (by omega)).congr fun x _ hx => s5.1 x (Or.inl (by have := HB.out; omega)))
      clear h5 s5 o5
      go_wp2_with fail
      exact ⟨⟨k + 1, b, b', rfl, rfl, by have := HB.out; omega, HB.out.2.2.1, HB.out.2.2.2, R2, H5.out, S5.out, O5.out⟩, by have := HB.out; simp only [intOf]; omega⟩
    · have hltz : ¬ (b : Int) ≤ (n : Int) := by omega
      have d1 : decide (b ≤ n) = false := decide_eq_false hlt
      have K := insertion_any hr (hs.wd HW.out) cap a n han (Nat.le_refl _) hnn
      unfold CMPF at K
      have K := Lib.hid K
      have HS := Lib.hid hs
      have HO := Lib.hid ho
      have HB := Lib.hid (show a = 20 * k ∧ n < a + 20 from ⟨ha, by omega⟩)
      clear hr hs ho ha hb han hlt hnn
      go_wp2_with fail
      refine K.out.mono ?_
      rintro _ w5 ⟨rfl, R2, h5, s5, o5⟩
      have H5 := Lib.hid h5
      have S5 := Lib.hid (HS.out.trans (s5.mono (Nat.zero_le _) (Nat.le_refl _)))
      have B5 := Lib.hid (blk_start HB.out.1 (fun j hj => (HO.out j hj).congr fun x _ hx => s5.1 x (Or.inl (by have := HB.out; omega))) o5 HB.out.2)
      clear h5 s5 o5 HS HO HB K
      go_wp2_with fail
      go_loopw [6, 7, 8, 9] (fun sv _ _ _ wr => ∃ bs : Nat, sv = .int .i64 bs ∧ 20 ≤ bs ∧ ∃ R', RowG wr w0 base g n R' ∧ Seg 0 n n R R' ∧ Blk R' bs n) (fun sv _ _ _ _ => n - (intOf sv).toNat)
      case atStart => exact ⟨20, rfl, Nat.le_refl _, R2, H5.out, S5.out, B5.out⟩
      case round =>
        obtain ⟨bs, rfl, hbs, R3, hr, hs, hB⟩ := hrel
        clear H5 S5 B5
        have hnn := HN.out
        have HS := Lib.hid hs
        by_cases hlt : bs < n
        · have hltz : (bs : Int) < (n : Int) := by omega
          have d1 : decide (bs < n) = true := decide_eq_true hlt
          have w2 : IntKind.i64.wrap (2 * (bs : Int)) = ((2 * bs : Nat) : Int) := by rw [IntKind.wrap_i64]; omega
          have w2' : IntKind.i64.wrap ((bs : Int) * 2) = ((2 * bs : Nat) : Int) := by rw [IntKind.wrap_i64]; omega
          obtain ⟨B2, hB2⟩ : ∃ B2, B2 = 2 * bs := ⟨_, rfl⟩
          rw [← hB2] at w2 w2'
          have HB := Lib.hid (show B2 = 2 * bs ∧ 20 ≤ bs ∧ bs < n from ⟨hB2, hbs, hlt⟩)
          have HM := Lib.hid (Md.start hB)
          have HR := Lib.hid hr
          clear hr hs hB hlt hbs hB2 hnn
          go_wp2_with fail
          go_loopw [7, 8] (fun av bv wr => ∃ q a b : Nat, av = .int .i64 a ∧ bv = .int .i64 b ∧ b = a + B2 ∧ a ≤ n ∧ ∃ R', RowG wr w0 base g n R' ∧ Seg 0 n n R R' ∧ Md R' bs n q a) (fun _ bv _ => n + B2 + 1 - (intOf bv).toNat)
          case atStart => exact ⟨0, 0, B2, rfl, rfl, by omega, Nat.zero_le _, R3, HR.out, HS.out, HM.out⟩
          case round =>
            obtain ⟨q, a, b, rfl, rfl, hb, han, R4, hr, hs, hm⟩ := hrel
            clear HR HS HM
            have hnn := HN.out
            have hbb := HB.out
            obtain ⟨m, hm'⟩ : ∃ m, m = a + bs := ⟨_, rfl⟩
            have wm : IntKind.i64.wrap ((a : Int) + (bs : Int)) = (m : Int) := by rw [IntKind.wrap_i64]; omega
            by_cases hlt : b ≤ n
            · have hltz : (b : Int) ≤ (n : Int) := by omega
              have d1 : decide (b ≤ n) = true := decide_eq_true hlt
              have wb : IntKind.i64.wrap ((b : Int) + (B2 : Int)) = ((b + B2 : Nat) : Int) := by rw [IntKind.wrap_i64]; omega
              obtain ⟨b', hb'⟩ : ∃ b', b' = b + B2 := ⟨_, rfl⟩
              rw [← hb'] at wb
              obtain ⟨o1, o2⟩ := hm.blocks (by omega)
              have K := sym_any (b - a) wr w0 base g n R4 hr (hs.wd HW.out) cap a m b (by omega) (by omega) hlt hnn (Nat.le_refl _) (by rw [hm']; exact o1) (by rw [hm', hb, hbb.1]; exact o2)
              unfold CMPF at K
              have K := Lib.hid K
              have HS := Lib.hid hs
              have HM := Lib.hid hm
              have HA := Lib.hid (show b = a + B2 ∧ b' = b + B2 ∧ b ≤ n from ⟨hb, hb', hlt⟩)
              clear hr hs hm hb han hlt hnn hbb hm' o1 o2 hb'
              go_wp2_with fail
              refine K.out.mono ?_
              rintro _ w5 ⟨rfl, R5, h5, s5, o5⟩
              have H5 := Lib.hid h5
              have S5 := Lib.hid (HS.out.trans (s5.mono (Nat.zero_le _) HA.out.2.2))
              have M5 := Lib.hid (show Md R5 bs n (q + 1) b from by
                have e : b = a + 2 * bs := by have := HA.out; have := HB.out; omega
                rw [e] at s5 o5 ⊢; exact HM.out.step s5 o5)
              clear h5 s5 o5
              go_wp2_with fail
              exact ⟨⟨q + 1, b, b', rfl, rfl, HA.out.2.1, HA.out.2.2, R5, H5.out, S5.out, M5.out⟩, by have := HA.out; have := HB.out; simp only [intOf]; omega⟩
            · have hltz : ¬ (b : Int) ≤ (n : Int) := by omega
              have d1 : decide (b ≤ n) = false := decide_eq_false hlt
              by_cases hmn : m < n
              · have d2 : decide (m < n) = true := decide_eq_true hmn
                have d2z : (m : Int) < (n : Int) := by omega
                obtain ⟨o1, o2⟩ := hm.blocks' (by omega) (by omega)
                have K := sym_any (n - a) wr w0 base g n R4 hr (hs.wd HW.out) cap a m n (by omega) hmn (Nat.le_refl _) hnn (Nat.le_refl _) (by rw [hm']; exact o1) (by rw [hm']; exact o2)
                unfold CMPF at K
                have K := Lib.hid K
                have HS := Lib.hid hs
                have HM := Lib.hid hm
                have HA := Lib.hid (show n < a + 2 * bs from by omega)
                clear hr hs hm hb han hlt hnn hbb hm' o1 o2 hmn
                go_wp2_with fail
                refine K.out.mono ?_
                rintro _ w5 ⟨rfl, R5, h5, s5, o5⟩
                have H5 := Lib.hid h5
                have S5 := Lib.hid (HS.out.trans (s5.mono (Nat.zero_le _) (Nat.le_refl _)))
                have M5 := Lib.hid (show Blk R5 B2 n from by rw [HB.out.1]; exact HM.out.fin s5 o5 HA.out)
                clear h5 s5 o5
                go_wp2_with fail
                exact ⟨⟨B2, rfl, by have := HB.out; omega, R5, H5.out, S5.out, M5.out⟩, by have := HB.out; simp only [intOf]; omega⟩
              · have d2 : decide (m < n) = false := decide_eq_false hmn
                have d2z : ¬ (m : Int) < (n : Int) := by omega
                have H5 := Lib.hid hr
                have S5 := Lib.hid hs
                have M5 := Lib.hid (show Blk R4 B2 n from by rw [hbb.1]; exact hm.fin (Seg.refl ..) (hm.last (by omega)) (by omega))
                clear hr hs hm hb han hlt hnn hbb hm' hmn
                go_wp2_with fail
                exact ⟨⟨B2, rfl, by have := HB.out; omega, R4, H5.out, S5.out, M5.out⟩, by have := HB.out; simp only [intOf]; omega⟩
        · have hltz : ¬ (bs : Int) < (n : Int) := by omega
          have d1 : decide (bs < n) = false := decide_eq_false hlt
          have HR := Lib.hid hr
          have HO := Lib.hid (show Ordd R3 0 n from by
            have := hB 0
            rw [Nat.zero_mul, Nat.zero_add, Nat.one_mul, Nat.min_eq_right (by omega)] at this; exact this)
          clear hr hs hB hlt hbs hnn
          go_wp2_with fail
          go_end0
          exact ⟨rfl, R3, HR.out, HS.out, HO.out⟩
set_option maxRecDepth 100000 in
set_option maxHeartbeats 3200000 in
theorem sortStable_any {w w0 : World} {base g n : Nat} {R : Nat → Nat} (h : RowG w w0 base g n R) (hR : ∀ j, Wd (R j)) (cap : Nat) (hn : n ≤ 100000) :
    Calls Try.prog 86 #[.slice (some ⟨g, 0, none⟩) n cap, CMPF] w fun e w' => e = .returned (.tuple #[]) ∧ ∃ R', RowG w' w0 base g n R' ∧ Seg 0 n n R R' ∧ Ordd R' 0 n := by
  have K := stable_any h hR cap hn
  unfold CMPF at K ⊢
  have K := Lib.hid K
  clear h hR hn
  go_enter Try.func86, Try.ntmps86
  go_wp2_with fail
  refine K.out.mono ?_
  rintro _ w5 ⟨rfl, h5⟩
  have H5 := Lib.hid h5
  clear h5
  go_wp2_with fail
  go_end0
  exact ⟨rfl, H5.out⟩
end Go.Proofs.Ytfhcgnkjncfeiaa
