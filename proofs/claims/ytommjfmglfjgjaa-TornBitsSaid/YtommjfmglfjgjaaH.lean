/- The walk of TornBits: the two lines made. -/
import Derived.Test.YtommjfmglfjgjaaC
import Derived.Test.YtommjfmglfjgjaaJ
namespace Go.Proofs.Ytommjfmglfjgjaa
open Go.ChangeShapes Go.WideShapes Go.RowKit

theorem wf_in {a : Int} (h : (Lit.int .i64 a).wf = true) : -9223372036854775808 ≤ a ∧ a ≤ 9223372036854775807 := by
  have e1 : IntKind.min .i64 = -9223372036854775808 := by decide
  have e2 : IntKind.max .i64 = 9223372036854775807 := by decide
  simp only [Lit.wf, e1, e2, Bool.and_eq_true, decide_eq_true_eq] at h
  exact h
theorem xor_not (mask : Int) (h : (Lit.int .i64 mask).wf = true) : bits .xor .i64 (-1) mask = -1 - mask := by
  have hb := wf_in h
  have h1 : bits .xor .i64 (-1) mask = IntKind.i64.wrap (((BitVec.ofInt 64 (-1) ^^^ BitVec.ofInt 64 mask).toNat : Nat) : Int) := rfl
  have h2 : BitVec.ofInt 64 (-1) = BitVec.allOnes 64 := by decide
  rw [h1, h2, BitVec.allOnes_xor, BitVec.toNat_not, BitVec.toNat_ofInt, IntKind.wrap_i64]
  omega
theorem bitOf_not (mask : Int) (k : Nat) (hk : k < 8) : bitOf (-1 - mask) k = !bitOf mask k := by
  unfold bitOf
  have h : k = 0 ∨ k = 1 ∨ k = 2 ∨ k = 3 ∨ k = 4 ∨ k = 5 ∨ k = 6 ∨ k = 7 := by omega
  have key : ((-1 - mask) / 2 ^ k % 2 = 1) ↔ ¬ (mask / 2 ^ k % 2 = 1) := by
    rcases h with rfl | rfl | rfl | rfl | rfl | rfl | rfl | rfl <;> simp only [Int.reducePow] <;> omega
  cases hm : (mask / 2 ^ k % 2 == 1)
  · have : ¬ (mask / 2 ^ k % 2 = 1) := by simpa using hm
    simpa using key.2 this
  · have : mask / 2 ^ k % 2 = 1 := by simpa using hm
    simpa using fun e => (key.1 e) this
theorem bitOf_nat (x : Int) (N : Nat) (h : x % 256 = (N % 256 : Nat)) (k : Nat) (hk : k < 8) : bitOf x k = N.testBit k := by
  rw [Nat.testBit_eq_decide_div_mod_eq]
  unfold bitOf
  have h8 : k = 0 ∨ k = 1 ∨ k = 2 ∨ k = 3 ∨ k = 4 ∨ k = 5 ∨ k = 6 ∨ k = 7 := by omega
  have key : (x / 2 ^ k % 2 = 1) ↔ (N / 2 ^ k % 2 = 1) := by
    rcases h8 with rfl | rfl | rfl | rfl | rfl | rfl | rfl | rfl <;> simp only [Int.reducePow, Nat.reducePow] <;> omega
  rw [Bool.eq_iff_iff]
  simpa using key
theorem ofInt_mod (x : Int) : x % 256 = (((BitVec.ofInt 64 x).toNat % 256 : Nat) : Int) := by
  rw [BitVec.toNat_ofInt]; omega
theorem wrap_mod (N : Nat) : (IntKind.i64.wrap (N : Int)) % 256 = ((N % 256 : Nat) : Int) := by
  rw [IntKind.wrap_i64]; omega
theorem bitOf_low8 (mask mo : Int) (k : Nat) (hk : k < 8) : bitOf (bits .or .i64 (bits .and .i64 mask 255) (wrap64 (mo * 256))) k = bitOf mask k := by
  have h1 : bits .or .i64 (bits .and .i64 mask 255) (wrap64 (mo * 256)) = IntKind.i64.wrap (((BitVec.ofInt 64 (bits .and .i64 mask 255) ||| BitVec.ofInt 64 (wrap64 (mo * 256))).toNat : Nat) : Int) := rfl
  have h2 : bits .and .i64 mask 255 = IntKind.i64.wrap (((BitVec.ofInt 64 mask &&& BitVec.ofInt 64 255).toNat : Nat) : Int) := rfl
  rw [bitOf_nat _ _ (by rw [h1]; exact wrap_mod _) k hk, BitVec.toNat_or, Nat.testBit_or]
  have e1 : (BitVec.ofInt 64 (bits .and .i64 mask 255)).toNat.testBit k = bitOf mask k := by
    rw [← bitOf_nat (bits .and .i64 mask 255) _ (ofInt_mod _) k hk, bitOf_nat _ _ (by rw [h2]; exact wrap_mod _) k hk, BitVec.toNat_and, Nat.testBit_and, ← bitOf_nat mask _ (ofInt_mod _) k hk]
    have e : (BitVec.ofInt 64 255).toNat = 2 ^ 8 - 1 := by decide
    rw [e, Nat.testBit_two_pow_sub_one]
    simp [hk]
  have e2 : (BitVec.ofInt 64 (wrap64 (mo * 256))).toNat.testBit k = false := by
    rw [← bitOf_nat (wrap64 (mo * 256)) _ (ofInt_mod _) k hk]
    rw [bitOf_nat (wrap64 (mo * 256)) 0 (by unfold wrap64; omega) k hk]
    simp
  rw [e1, e2, Bool.or_false]
/-- the slots' facts -/
def bitsL (lo ln : List Int) (a b : Int) : List (Nat × Nat × Value) :=
  [(0, 12, .agg (cs lo)), (1, 13, .agg (cs ln)), (2, 14, .int .i64 a), (3, 15, .agg (cs (mix lo ln a))), (4, 16, .agg (cs lo)), (5, 17, .agg (cs ln)), (6, 18, .int .i64 a), (7, 19, .int .i64 b), (8, 20, .agg (cs (mix lo ln b)))]
def bitsO : List (Nat × Nat) := [(11, 9), (11, 3), (12, 10), (12, 8)]
/-- the two rows, as far as they are made and written -/
structure BitsW (w0 : World) (X Y : List Int) (d9 d10 d11 d12 : Bool) (t9 t10 : Value) (w : World) : Prop where
  hb : Below w0.heap.size w0 w
  r9 : d9 = true → ∃ g, t9 = .pointer (some ⟨g, 0, none⟩) ∧ w0.heap.size ≤ g ∧ obj w g = some (.cells (if d11 then cs X else z8) 24)
  r10 : d10 = true → ∃ g, t10 = .pointer (some ⟨g, 0, none⟩) ∧ w0.heap.size ≤ g ∧ obj w g = some (.cells (if d12 then cs Y else z8) 24)
  ne : d9 = true → d10 = true → t9 ≠ t10
theorem BitsW.below {w0 : World} {X Y : List Int} {d9 d10 d11 d12 : Bool} {t9 t10 : Value} {w w' : World} (h : BitsW w0 X Y d9 d10 d11 d12 t9 t10 w) (hb : Below w.heap.size w w') : BitsW w0 X Y d9 d10 d11 d12 t9 t10 w' := by
  refine ⟨h.hb.trans (hb.mono h.hb.size), fun e => ?_, fun e => ?_, h.ne⟩
  · obtain ⟨g, h1, h2, h3⟩ := h.r9 e
    exact ⟨g, h1, h2, keep hb h3⟩
  · obtain ⟨g, h1, h2, h3⟩ := h.r10 e
    exact ⟨g, h1, h2, keep hb h3⟩
theorem BitsW.make9 {w0 : World} {X Y : List Int} {d10 d12 : Bool} {t9 t10 : Value} {w : World} (h : BitsW w0 X Y false d10 false d12 t9 t10 w) : BitsW w0 X Y true d10 false d12 (.pointer (some ⟨w.heap.size, 0, none⟩)) t10 (w.alloc (.cells z8 24)) := by
  refine ⟨h.hb.alloc h.hb.size _, fun _ => ⟨_, rfl, h.hb.size, newA w _⟩, fun e => ?_, fun _ e => ?_⟩
  · obtain ⟨g, h1, h2, h3⟩ := h.r10 e
    exact ⟨g, h1, h2, keepA _ h3⟩
  · obtain ⟨g, h1, h2, h3⟩ := h.r10 e
    have := lt_of_obj h3
    rw [h1]
    intro hh
    simp at hh
    try omega
theorem BitsW.make10 {w0 : World} {X Y : List Int} {d9 d11 : Bool} {t9 t10 : Value} {w : World} (h : BitsW w0 X Y d9 false d11 false t9 t10 w) : BitsW w0 X Y d9 true d11 false t9 (.pointer (some ⟨w.heap.size, 0, none⟩)) (w.alloc (.cells z8 24)) := by
  refine ⟨h.hb.alloc h.hb.size _, fun e => ?_, fun _ => ⟨_, rfl, h.hb.size, newA w _⟩, fun e _ => ?_⟩
  · obtain ⟨g, h1, h2, h3⟩ := h.r9 e
    exact ⟨g, h1, h2, keepA _ h3⟩
  · obtain ⟨g, h1, h2, h3⟩ := h.r9 e
    have := lt_of_obj h3
    rw [h1]
    intro hh
    simp at hh
    try omega
theorem setRow_below {B : Nat} {w w' : World} (h : Below B w w') {g : Nat} (hg : B ≤ g) (c : Array Value) : Below B w (w'.setRow g c) := by
  refine h.trans ⟨rfl, rfl, rfl, by simp, fun k hk => ?_⟩
  exact setRow_other w' g k c (by omega)
theorem BitsW.put9 {w0 : World} {X Y : List Int} {d10 d12 : Bool} {t10 : Value} {w : World} {g : Nat} (h : BitsW w0 X Y true d10 false d12 (.pointer (some ⟨g, 0, none⟩)) t10 w) : BitsW w0 X Y true d10 true d12 (.pointer (some ⟨g, 0, none⟩)) t10 (w.setRow g (cs X)) := by
  obtain ⟨g', h1, h2, h3⟩ := h.r9 rfl
  obtain rfl : g = g' := by simpa using h1
  refine ⟨setRow_below h.hb h2 _, fun _ => ⟨_, rfl, h2, by rw [obj_setRow_eq, h3]; rfl⟩, fun e => ?_, h.ne⟩
  obtain ⟨g', k1, k2, k3⟩ := h.r10 e
  have hne := h.ne rfl e
  refine ⟨g', k1, k2, ?_⟩
  rw [obj_setRow_ne w g _ g' (by intro e; subst e; exact hne k1.symm), k3]
theorem BitsW.put10 {w0 : World} {X Y : List Int} {d9 d11 : Bool} {t9 : Value} {w : World} {g : Nat} (h : BitsW w0 X Y d9 true d11 false t9 (.pointer (some ⟨g, 0, none⟩)) w) : BitsW w0 X Y d9 true d11 true t9 (.pointer (some ⟨g, 0, none⟩)) (w.setRow g (cs Y)) := by
  obtain ⟨g', h1, h2, h3⟩ := h.r10 rfl
  obtain rfl : g = g' := by simpa using h1
  refine ⟨setRow_below h.hb h2 _, fun e => ?_, fun _ => ⟨_, rfl, h2, by rw [obj_setRow_eq, h3]; rfl⟩, h.ne⟩
  obtain ⟨g', k1, k2, k3⟩ := h.r9 e
  have hne := h.ne e rfl
  refine ⟨g', k1, k2, ?_⟩
  rw [obj_setRow_ne w g _ g' (by intro e; subst e; exact hne k1), k3]
/-- what holds whichever operations have run -/
def Bits (w0 : World) (lo ln : List Int) (a b : Int) (T0 : Nat → Value) (d : Nat → Bool) (T : Nat → Value) (w : World) : Prop :=
  Facts (bitsL lo ln a b) d T ∧ Ord bitsO d ∧ (∀ j, j < 9 ∨ 20 < j ∨ j = 11 → T j = T0 j) ∧ BitsW w0 (mix lo ln a) (mix lo ln b) (d 9) (d 10) (d 11) (d 12) (T 9) (T 10) w
theorem Bits.plain {w0 : World} {lo ln : List Int} {a b : Int} {T0 : Nat → Value} {d : Nat → Bool} {T : Nat → Value} {w w' : World} (h : Bits w0 lo ln a b T0 d T w) (i s : Nat) (v : Value) (hi : i < 9) (hs : 12 ≤ s ∧ s ≤ 20)
    (hl : ∀ x ∈ bitsL lo ln a b, if x.1 = i then x.2.1 = s ∧ x.2.2 = v else x.2.1 ≠ s) (hb : Below w.heap.size w w') : Bits w0 lo ln a b T0 (also d i) (upd T s v) w' := by
  obtain ⟨h1, h2, h3, h4⟩ := h
  refine ⟨h1.step i s v hl, h2.step i (by intro x hx; simp [bitsO] at hx; rcases hx with rfl | rfl | rfl | rfl <;> simp <;> omega), fun j hj => by unfold upd; rw [if_neg (by omega)]; exact h3 j hj, ?_⟩
  have e : ∀ j, 9 ≤ j → also d i j = d j := fun j hj => by unfold also; rw [if_neg (by omega)]
  have e2 : ∀ j, j < 12 → upd T s v j = T j := fun j hj => by unfold upd; rw [if_neg (by omega)]
  rw [e 9 (by omega), e 10 (by omega), e 11 (by omega), e 12 (by omega), e2 9 (by omega), e2 10 (by omega)]
  exact h4.below hb

set_option maxRecDepth 100000 in
set_option maxHeartbeats 6400000 in
theorem bits_walk (lo ln : List Int) (mask mo : Int) (w : World) (ho : lo.length = 8) (hn : ln.length = 8) (hwf : (Lit.int .i64 mask).wf = true) (_ : (Lit.int .i64 mo).wf = true) :
    Calls Try.prog 6 #[.agg (cs lo), .agg (cs ln), .int .i64 mask, .int .i64 mo] w fun e w' => e = .returned (.bool true) ∧ Below w.heap.size w w' := by
  have hnot : ∀ k, k < 8 → bitOf (bits .xor .i64 (-1) mask) k = !bitOf mask k := fun k hk => by rw [xor_not mask hwf]; exact bitOf_not mask k hk
  have HN := Lib.hid hnot
  have HX : Hid (mix ln lo mask = mix lo ln (bits .xor .i64 (-1) mask)) := Lib.hid (wd_ext (mix_len ..) (mix_len ..) fun i hi => by
    rw [wd_mix _ _ _ _ hi, wd_mix _ _ _ _ hi, hnot i hi]; cases bitOf mask i <;> rfl)
  have HV : Hid (mix lo ln (bits .or .i64 (bits .and .i64 mask 255) (wrap64 (mo * 256))) = mix lo ln mask) := Lib.hid (wd_ext (mix_len ..) (mix_len ..) fun i hi => by
    rw [wd_mix _ _ _ _ hi, wd_mix _ _ _ _ hi, bitOf_low8 mask mo i hi])
  clear hnot
  go_enter Try.func6, Try.ntmps6
  go_wp2_with fail
  have p4 := keepA (.cells (cs ln) 24) (newA w (.cells (cs lo) 24))
  have p5 := newA (w.alloc (.cells (cs lo) 24)) (.cells (cs ln) 24)
  simp only [World.size_alloc] at p5
  have hb0 : Below w.heap.size w ((w.alloc (.cells (cs lo) 24)).alloc (.cells (cs ln) 24)) := ((Below.refl _ _).alloc (Nat.le_refl _) _).alloc (by simp) _
  have HB0 := Lib.hid hb0
  clear hb0
  generalize (w.alloc (.cells (cs lo) 24)).alloc (.cells (cs ln) 24) = w0 at p4 p5 HB0 ⊢
  generalize w.heap.size + 1 = b5 at p5 ⊢
  obtain ⟨b4, hb4⟩ : ∃ b4, w.heap.size = b4 := ⟨_, rfl⟩
  rw [hb4] at p4 ⊢
  have HB4 := Lib.hid hb4
  clear hb4
  refine wp_region_slots 98 (fun T0 d T w' => Bits w0 lo ln mask (bits .xor .i64 (-1) mask) T0 d T w' ∧ T0 4 = .pointer (some ⟨b4, 0, none⟩) ∧ T0 5 = .pointer (some ⟨b5, 0, none⟩) ∧ T0 2 = .int .i64 mask)
    (by kernel_rfl) (by kernel_rfl) rfl rfl ?_ ?_ ?_
  · refine ⟨⟨Facts.start (by simp [bitsL]), Ord.start (by simp [bitsO]), fun _ _ => rfl, ?_⟩, rfl, rfl, rfl⟩
    exact ⟨(Below.refl _ _).drew, fun e => (by cases e), fun e => (by cases e), fun e => (by cases e)⟩
  · intro T0
    refine ⟨?_, ?_, ?_, ?_, ?_, ?_, ?_, ?_, ?_, ?_, ?_, ?_, ?_, trivial⟩
    · refine keeps_of' rfl ?_
      rintro d T w1 hd ha ⟨hG, h4, h5, h2⟩ K hK
      have e := (hG.2.2.1 4 (by decide)).trans h4
      have q := keep hG.2.2.2.hb p4
      go_simp
      exact hK _ _ ⟨hG.plain 0 12 _ (by decide) (by decide) (by simp [bitsL]) (Below.refl _ _), h4, h5, h2⟩
    · refine keeps_of' rfl ?_
      rintro d T w1 hd ha ⟨hG, h4, h5, h2⟩ K hK
      have e := (hG.2.2.1 5 (by decide)).trans h5
      have q := keep hG.2.2.2.hb p5
      go_simp
      exact hK _ _ ⟨hG.plain 1 13 _ (by decide) (by decide) (by simp [bitsL]) (Below.refl _ _), h4, h5, h2⟩
    · refine keeps_of' rfl ?_
      rintro d T w1 hd ha ⟨hG, h4, h5, h2⟩ K hK
      have e := (hG.2.2.1 2 (by decide)).trans h2
      go_simp
      exact hK _ _ ⟨hG.plain 2 14 _ (by decide) (by decide) (by simp [bitsL]) (Below.refl _ _), h4, h5, h2⟩
    · refine keeps_of' rfl ?_
      rintro d T w1 hd ha ⟨hG, h4, h5, h2⟩ K hK
      have e1 := hG.1 (0, 12, .agg (cs lo)) (by simp [bitsL]) (ha 0 (by decide))
      have e2 := hG.1 (1, 13, .agg (cs ln)) (by simp [bitsL]) (ha 1 (by decide))
      have e3 := hG.1 (2, 14, .int .i64 mask) (by simp [bitsL]) (ha 2 (by decide))
      simp only at e1 e2 e3
      go_simp
      refine (mix_any lo ln mask _ ho hn).mono ?_
      rintro _ w2 ⟨rfl, hb⟩
      show K ((actOf 98 T).put (some 15) _) w2
      rw [actOf_put 98 T 15 _ (by decide)]
      exact hK _ _ ⟨hG.plain 3 15 _ (by decide) (by decide) (by simp [bitsL]) hb, h4, h5, h2⟩
    · refine keeps_of' rfl ?_
      rintro d T w1 hd ha ⟨hG, h4, h5, h2⟩ K hK
      have e := (hG.2.2.1 4 (by decide)).trans h4
      have q := keep hG.2.2.2.hb p4
      go_simp
      exact hK _ _ ⟨hG.plain 4 16 _ (by decide) (by decide) (by simp [bitsL]) (Below.refl _ _), h4, h5, h2⟩
    · refine keeps_of' rfl ?_
      rintro d T w1 hd ha ⟨hG, h4, h5, h2⟩ K hK
      have e := (hG.2.2.1 5 (by decide)).trans h5
      have q := keep hG.2.2.2.hb p5
      go_simp
      exact hK _ _ ⟨hG.plain 5 17 _ (by decide) (by decide) (by simp [bitsL]) (Below.refl _ _), h4, h5, h2⟩
    · refine keeps_of' rfl ?_
      rintro d T w1 hd ha ⟨hG, h4, h5, h2⟩ K hK
      have e := (hG.2.2.1 2 (by decide)).trans h2
      go_simp
      exact hK _ _ ⟨hG.plain 6 18 _ (by decide) (by decide) (by simp [bitsL]) (Below.refl _ _), h4, h5, h2⟩
    · refine keeps_of' rfl ?_
      rintro d T w1 hd ha ⟨hG, h4, h5, h2⟩ K hK
      have e := hG.1 (6, 18, .int .i64 mask) (by simp [bitsL]) (ha 6 (by decide))
      simp only at e
      go_simp
      exact hK _ _ ⟨hG.plain 7 19 (.int .i64 (bits .xor .i64 (-1) mask)) (by decide) (by decide) (by simp [bitsL]) (Below.refl _ _), h4, h5, h2⟩
    · refine keeps_of' rfl ?_
      rintro d T w1 hd ha ⟨hG, h4, h5, h2⟩ K hK
      have e1 := hG.1 (4, 16, .agg (cs lo)) (by simp [bitsL]) (ha 4 (by decide))
      have e2 := hG.1 (5, 17, .agg (cs ln)) (by simp [bitsL]) (ha 5 (by decide))
      have e3 := hG.1 (7, 19, .int .i64 (bits .xor .i64 (-1) mask)) (by simp [bitsL]) (ha 7 (by decide))
      simp only at e1 e2 e3
      go_simp
      refine (mix_any lo ln (bits .xor .i64 (-1) mask) _ ho hn).mono ?_
      rintro _ w2 ⟨rfl, hb⟩
      show K ((actOf 98 T).put (some 20) _) w2
      rw [actOf_put 98 T 20 _ (by decide)]
      exact hK _ _ ⟨hG.plain 8 20 _ (by decide) (by decide) (by simp [bitsL]) hb, h4, h5, h2⟩
    · refine keeps_of' rfl ?_
      rintro d T w1 hd ha ⟨⟨hF, hO, hT, hW⟩, h4, h5, h2⟩ K hK
      have o11 := hO.not (x := 11) (y := 9) (by simp [bitsO]) hd
      rw [hd, o11] at hW
      go_simp
      refine hK _ _ ⟨⟨hF.step 9 9 _ (by simp [bitsL]), hO.step 9 (by simp [bitsO]), fun j hj => by unfold upd; rw [if_neg (by omega)]; exact hT j hj, ?_⟩, h4, h5, h2⟩
      show BitsW _ _ _ true (d 10) (d 11) (d 12) _ (T 10) _
      rw [o11]
      exact hW.make9
    · refine keeps_of' rfl ?_
      rintro d T w1 hd ha ⟨⟨hF, hO, hT, hW⟩, h4, h5, h2⟩ K hK
      have o12 := hO.not (x := 12) (y := 10) (by simp [bitsO]) hd
      rw [hd, o12] at hW
      go_simp
      refine hK _ _ ⟨⟨hF.step 10 10 _ (by simp [bitsL]), hO.step 10 (by simp [bitsO]), fun j hj => by unfold upd; rw [if_neg (by omega)]; exact hT j hj, ?_⟩, h4, h5, h2⟩
      show BitsW _ _ _ (d 9) true (d 11) (d 12) (T 9) _ _
      rw [o12]
      exact hW.make10
    · refine keeps_of' rfl ?_
      rintro d T w1 hd ha ⟨⟨hF, hO, hT, hW⟩, h4, h5, h2⟩ K hK
      have e := hF (3, 15, .agg (cs (mix lo ln mask))) (by simp [bitsL]) (ha 3 (by decide))
      simp only at e
      have o9 := ha 9 (by decide)
      rw [hd, o9] at hW
      obtain ⟨g, t9, hg, q⟩ := hW.r9 rfl
      simp only [Bool.false_eq_true, if_false] at q
      rw [t9] at hW
      go_simp
      refine hK _ _ ⟨⟨hF.run 11 (by simp [bitsL]), hO.step 11 (by simp [bitsO, o9, ha 3 (by decide)]), hT, ?_⟩, h4, h5, h2⟩
      show BitsW _ _ _ (d 9) (d 10) true (d 12) (T 9) (T 10) _
      rw [o9, t9]
      exact hW.put9
    · refine keeps_of' rfl ?_
      rintro d T w1 hd ha ⟨⟨hF, hO, hT, hW⟩, h4, h5, h2⟩ K hK
      have e := hF (8, 20, .agg (cs (mix lo ln (bits .xor .i64 (-1) mask)))) (by simp [bitsL]) (ha 8 (by decide))
      simp only at e
      have o10 := ha 10 (by decide)
      rw [hd, o10] at hW
      obtain ⟨g, t10, hg, q⟩ := hW.r10 rfl
      simp only [Bool.false_eq_true, if_false] at q
      rw [t10] at hW
      go_simp
      refine hK _ _ ⟨⟨hF.run 12 (by simp [bitsL]), hO.step 12 (by simp [bitsO, o10, ha 8 (by decide)]), hT, ?_⟩, h4, h5, h2⟩
      show BitsW _ _ _ (d 9) (d 10) (d 11) true (T 9) (T 10) _
      rw [o10, t10]
      exact hW.put10
  · rintro T w2 ⟨⟨_, _, hT, hW⟩, h4, h5, h2⟩
    have e : actOf 98 T = ⟨#[T 0, T 1, T 2, T 3, T 4, T 5, T 6, T 7, T 8, T 9, T 10, T 11, T 12, T 13, T 14, T 15, T 16, T 17, T 18, T 19, T 20, T 21, T 22, T 23, T 24, T 25, T 26, T 27, T 28, T 29, T 30, T 31, T 32, T 33, T 34, T 35, T 36, T 37, T 38, T 39, T 40, T 41, T 42, T 43, T 44, T 45, T 46, T 47, T 48, T 49, T 50, T 51, T 52, T 53, T 54, T 55, T 56, T 57, T 58, T 59, T 60, T 61, T 62, T 63, T 64, T 65, T 66, T 67, T 68, T 69, T 70, T 71, T 72, T 73, T 74, T 75, T 76, T 77, T 78, T 79, T 80, T 81, T 82, T 83, T 84, T 85, T 86, T 87, T 88, T 89, T 90, T 91, T 92, T 93, T 94, T 95, T 96, T 97], []⟩ := rfl
    rw [e]
    have t2 : T 2 = .int .i64 mask := (hT 2 (by decide)).trans h2
    have t3 : T 3 = .int .i64 mo := hT 3 (by decide)
    have t4 : T 4 = .pointer (some ⟨b4, 0, none⟩) := (hT 4 (by decide)).trans h4
    have t5 : T 5 = .pointer (some ⟨b5, 0, none⟩) := (hT 5 (by decide)).trans h5
    obtain ⟨g9, t9, hg9, q9⟩ := hW.r9 rfl
    obtain ⟨g10, t10, hg10, q10⟩ := hW.r10 rfl
    simp only [if_true] at q9 q10
    rw [t2, t3, t4, t5, t9, t10]
    have q4 := keep hW.hb p4
    have q5 := keep hW.hb p5
    have HW := Lib.hid (HB0.out.trans (hW.hb.mono (by have := lt_of_obj p4; have := HB4.out; omega)))
    have HS4 : Hid (w.heap.size ≤ w2.heap.size) := Lib.hid (by have := lt_of_obj q4; have := HB4.out; omega)
    clear t2 t3 t4 t5 t9 t10 hT hW h4 h5 h2 p4 p5 hg9 hg10
    go_wp2_with fail
    go_loopw [21] (fun i wr => ∃ k : Nat, k ≤ 8 ∧ i = .int .i64 k ∧ Below w2.heap.size w2 wr) (fun i _ => 8 - (intOf i).toNat)
    case atStart => exact ⟨0, by omega, rfl, Below.refl _ _⟩
    case round =>
      obtain ⟨k, hk, rfl, hB⟩ := hrel
      have r4 := keep hB q4
      have r5 := keep hB q5
      have r9 := keep hB q9
      have r10 := keep hB q10
      have u4 := lt_of_obj r4
      have u5 := lt_of_obj r5
      have u9 := lt_of_obj r9
      have u10 := lt_of_obj r10
      have HB := Lib.hid hB
      clear hB
      by_cases hlt : k < 8
      · have hk8 : (k : Int) < 8 := by omega
        have wx : wd (mix lo ln mask) k = if bitOf mask k then wd ln k else wd lo k := wd_mix lo ln mask k hlt
        have wy : wd (mix lo ln (bits .xor .i64 (-1) mask)) k = if bitOf mask k then wd lo k else wd ln k := by
          rw [wd_mix lo ln _ k hlt, HN.out k hlt]
          cases bitOf mask k <;> rfl
        have hsym : (wd ln k == wd lo k) = (wd lo k == wd ln k) := by rw [Bool.eq_iff_iff]; simp; exact eq_comm
        have hne : (wd ln k != wd lo k) = !(wd lo k == wd ln k) := by rw [← hsym]; rfl
        have hne2 : (wd lo k != wd ln k) = !(wd lo k == wd ln k) := rfl
        cases hb : bitOf mask k
        all_goals
          rw [hb] at wx wy
          simp only [Bool.false_eq_true, if_false, if_true] at wx wy
          cases he : (wd lo k == wd ln k)
        all_goals
          rw [he] at hsym hne hne2
          go_wp2_with fail
          refine wp_region_more (by kernel_rfl) (by kernel_rfl) ?_
          repeat (go_big_quiet_step (fail))
          refine wpQuiet_nil ?_
          intro _ hw'
          obtain ⟨y, hw''⟩ := hw'
          subst hw''
          go_wp2_with fail
          go_roundw
          case rel => exact ⟨k + 1, by omega, by go_num, HB.out.trans ((more_below wr y).mono HB.out.size)⟩
          case measure => simp [intOf]; omega
      · obtain rfl : k = 8 := by omega
        clear hk hlt
        have c1 : ∀ w, Calls Try.prog 12 #[.agg (cs lo), .agg (cs ln), .int .i64 (bits .or .i64 (bits .and .i64 mask 255) (wrap64 (mo * 256)))] w fun e w' => e = .returned (.agg (cs (mix lo ln mask))) ∧ Below w.heap.size w w' := fun w => by
          have := mix_any lo ln (bits .or .i64 (bits .and .i64 mask 255) (wrap64 (mo * 256))) w ho hn
          rw [HV.out] at this
          exact this
        have c2 : ∀ w, Calls Try.prog 12 #[.agg (cs ln), .agg (cs lo), .int .i64 mask] w fun e w' => e = .returned (.agg (cs (mix lo ln (bits .xor .i64 (-1) mask)))) ∧ Below w.heap.size w w' := fun w => by
          rw [← HX.out]; exact mix_any ln lo mask w hn ho
        have C1 := Lib.hid c1
        have C2 := Lib.hid c2
        clear c1 c2
        go_wp2_with fail
        refine wp_region_more (by kernel_rfl) (by kernel_rfl) ?_
        repeat (go_big_quiet_step (fail))
        go_big_quiet_step ((go_at_call 12; exact more_call (C1.out _)))
        repeat (go_big_quiet_step (fail))
        go_big_quiet_step ((go_at_call 12; exact more_call (C2.out _)))
        repeat (go_big_quiet_step (fail))
        go_big_quiet_step ((go_at_call 16; exact more_call (awake4 _)))
        repeat (go_big_quiet_step (fail))
        refine wpQuiet_nil ?_
        intro _ hw'
        obtain ⟨y, hw''⟩ := hw'
        subst hw''
        go_wp2_with fail
        go_ret
        exact ⟨rfl, (HW.out.trans (HB.out.mono HS4.out)).trans ((more_below wr y).mono (Nat.le_trans HS4.out HB.out.size))⟩
end Go.Proofs.Ytommjfmglfjgjaa
