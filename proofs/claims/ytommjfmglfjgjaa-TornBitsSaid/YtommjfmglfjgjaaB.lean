/- Plain facts on mixing two rows of eight words by a mask, and on how many masks make a row. -/
import Derived.Test.YtommjfmglfjgjaaM
namespace Go.Proofs.Ytommjfmglfjgjaa
open Go.RowKit

theorem and1 (x : Int) : bits .and .i64 x 1 = x % 2 := by
  show IntKind.i64.wrap (((BitVec.ofInt 64 x &&& BitVec.ofInt 64 1).toNat : Nat) : Int) = x % 2
  have h1 : (BitVec.ofInt 64 1) = 1#64 := by decide
  rw [h1, BitVec.toNat_and]
  have h2 : (1#64).toNat = 1 := rfl
  rw [h2, Nat.and_one_is_mod, BitVec.toNat_ofInt]
  have h3 : (((x % ((2 ^ 64 : Nat) : Int)).toNat % 2 : Nat) : Int) = x % 2 := by
    have : ((2 ^ 64 : Nat) : Int) = 18446744073709551616 := by decide
    rw [this]; omega
  rw [h3, IntWalk.i64_in _ (by omega)]
attribute [go_sem] and1

/-- is bit i of a mask 1? -/
def bitOf (mask : Int) (i : Nat) : Bool := mask / 2 ^ i % 2 == 1
/-- the first k words mixed -/
def mixTo (lo ln : List Int) (mask : Int) (k : Nat) : List Int := (List.range 8).map fun i => if i < k && bitOf mask i then wd ln i else wd lo i
@[go_sem] theorem mixTo_len (lo ln : List Int) (mask : Int) (k : Nat) : (mixTo lo ln mask k).length = 8 := by simp [mixTo]
theorem wd_mixTo (lo ln : List Int) (mask : Int) (k i : Nat) (hi : i < 8) : wd (mixTo lo ln mask k) i = if i < k && bitOf mask i then wd ln i else wd lo i := by
  simp [wd, mixTo, hi]
theorem wd_set (l : List Int) (k : Nat) (v : Int) (i : Nat) (hi : i < l.length) : wd (l.set k v) i = if i = k then v else wd l i := by
  simp only [wd, List.getD]
  rw [List.getElem?_set]
  by_cases h : i = k
  · subst h; simp [hi]
  · simp [h, Ne.symm h]
theorem mixTo_zero (lo ln : List Int) (mask : Int) (h : lo.length = 8) : mixTo lo ln mask 0 = lo :=
  wd_ext (mixTo_len ..) h fun i hi => by rw [wd_mixTo _ _ _ _ _ hi]; simp
theorem mixTo_set (lo ln : List Int) (mask : Int) (k : Nat) (hk : k < 8) (hb : bitOf mask k = true) : (mixTo lo ln mask k).set k (wd ln k) = mixTo lo ln mask (k + 1) :=
  wd_ext (n := 8) (by simp [mixTo_len]) (mixTo_len ..) fun i hi => by
    rw [wd_set _ _ _ _ (by simp [mixTo_len, hi]), wd_mixTo _ _ _ _ _ hi, wd_mixTo _ _ _ _ _ hi]
    by_cases e : i = k
    · subst e; simp [hb]
    · have : (i < k) ↔ (i < k + 1) := by omega
      simp [e, this]
theorem mixTo_keep (lo ln : List Int) (mask : Int) (k : Nat) (hb : bitOf mask k = false) : mixTo lo ln mask k = mixTo lo ln mask (k + 1) :=
  wd_ext (mixTo_len ..) (mixTo_len ..) fun i hi => by
    rw [wd_mixTo _ _ _ _ _ hi, wd_mixTo _ _ _ _ _ hi]
    by_cases e : i = k
    · subst e; simp [hb]
    · have : (i < k) ↔ (i < k + 1) := by omega
      simp [this]

/-- the new line, its first k words mixed -/
def mixFrom (lo ln : List Int) (mask : Int) (k : Nat) : List Int := (List.range 8).map fun i => if i < k && !bitOf mask i then wd lo i else wd ln i
@[go_sem] theorem mixFrom_len (lo ln : List Int) (mask : Int) (k : Nat) : (mixFrom lo ln mask k).length = 8 := by simp [mixFrom]
theorem wd_mixFrom (lo ln : List Int) (mask : Int) (k i : Nat) (hi : i < 8) : wd (mixFrom lo ln mask k) i = if i < k && !bitOf mask i then wd lo i else wd ln i := by
  simp [wd, mixFrom, hi]
theorem mixFrom_zero (lo ln : List Int) (mask : Int) (h : ln.length = 8) : mixFrom lo ln mask 0 = ln :=
  wd_ext (mixFrom_len ..) h fun i hi => by rw [wd_mixFrom _ _ _ _ _ hi]; simp
theorem mixFrom_set (lo ln : List Int) (mask : Int) (k : Nat) (hk : k < 8) (hb : bitOf mask k = false) : (mixFrom lo ln mask k).set k (wd lo k) = mixFrom lo ln mask (k + 1) :=
  wd_ext (n := 8) (by simp [mixFrom_len]) (mixFrom_len ..) fun i hi => by
    rw [wd_set _ _ _ _ (by simp [mixFrom_len, hi]), wd_mixFrom _ _ _ _ _ hi, wd_mixFrom _ _ _ _ _ hi]
    by_cases e : i = k
    · subst e; simp [hb]
    · have : (i < k) ↔ (i < k + 1) := by omega
      simp [e, this]
theorem mixFrom_keep (lo ln : List Int) (mask : Int) (k : Nat) (hb : bitOf mask k = true) : mixFrom lo ln mask k = mixFrom lo ln mask (k + 1) :=
  wd_ext (mixFrom_len ..) (mixFrom_len ..) fun i hi => by
    rw [wd_mixFrom _ _ _ _ _ hi, wd_mixFrom _ _ _ _ _ hi]
    by_cases e : i = k
    · subst e; simp [hb]
    · have : (i < k) ↔ (i < k + 1) := by omega
      simp [this]
theorem mixFrom_all (lo ln : List Int) (mask : Int) : mixFrom lo ln mask 8 = mixTo lo ln mask 8 :=
  wd_ext (mixFrom_len ..) (mixTo_len ..) fun i hi => by
    rw [wd_mixFrom _ _ _ _ _ hi, wd_mixTo _ _ _ _ _ hi]
    cases bitOf mask i <;> simp [hi]
/-- the mix of two lines -/
def mix (lo ln : List Int) (mask : Int) : List Int := mixTo lo ln mask 8
@[go_sem] theorem mix_len (lo ln : List Int) (mask : Int) : (mix lo ln mask).length = 8 := mixTo_len ..
theorem wd_mix (lo ln : List Int) (mask : Int) (i : Nat) (hi : i < 8) : wd (mix lo ln mask) i = if bitOf mask i then wd ln i else wd lo i := by
  unfold mix; rw [wd_mixTo _ _ _ _ _ hi]; simp [hi]
/-- a test by the other value -/
theorem bit_test (mask : Int) (k : Nat) : (mask / 2 ^ k % 2 == 0) = !bitOf mask k := by
  unfold bitOf
  have : mask / 2 ^ k % 2 = 0 ∨ mask / 2 ^ k % 2 = 1 := by omega
  rcases this with h | h <;> rw [h] <;> rfl

/-- of how many values of bit k word k is what it is -/
def ways (lo ln li : List Int) (k : Nat) : Int := (if wd li k = wd lo k then 1 else 0) + (if wd li k = wd ln k then 1 else 0)
/-- how many masks of k bits make the first k words -/
def msk (lo ln li : List Int) : Nat → Int
  | 0 => 1
  | k + 1 => msk lo ln li k * ways lo ln li k
theorem ways_bd (lo ln li : List Int) (k : Nat) : 0 ≤ ways lo ln li k ∧ ways lo ln li k ≤ 2 := by unfold ways; split <;> split <;> omega
theorem msk_bd (lo ln li : List Int) (k : Nat) : 0 ≤ msk lo ln li k ∧ msk lo ln li k ≤ 2 ^ k := by
  induction k with
  | zero => simp [msk]
  | succ k ih =>
    have := ways_bd lo ln li k
    refine ⟨Int.mul_nonneg ih.1 this.1, ?_⟩
    show msk lo ln li k * ways lo ln li k ≤ 2 ^ (k + 1)
    rw [Int.pow_succ]
    exact Int.mul_le_mul ih.2 this.2 this.1 (by exact Int.pow_nonneg (by decide))
theorem msk_zero (lo ln li : List Int) (k : Nat) (h : ways lo ln li k = 0) : ∀ n, k < n → msk lo ln li n = 0 := by
  intro n
  induction n with
  | zero => omega
  | succ n ih =>
    intro hn
    by_cases e : k = n
    · subst e; simp [msk, h]
    · simp [msk, ih (by omega)]

/-- how many numbers below n are so -/
def cnt (p : Nat → Bool) : Nat → Int
  | 0 => 0
  | n + 1 => cnt p n + if p n then 1 else 0
theorem cnt_succ (p : Nat → Bool) (n : Nat) : cnt p (n + 1) = cnt p n + if p n then 1 else 0 := rfl
theorem cnt_bd (p : Nat → Bool) (n : Nat) : 0 ≤ cnt p n ∧ cnt p n ≤ n := by
  induction n with
  | zero => simp [cnt]
  | succ n ih => unfold cnt; split <;> omega
theorem cnt_congr {p q : Nat → Bool} (n : Nat) (h : ∀ i, i < n → p i = q i) : cnt p n = cnt q n := by
  induction n with
  | zero => rfl
  | succ n ih => unfold cnt; rw [ih (fun i hi => h i (by omega)), h n (by omega)]
theorem cnt_add (p : Nat → Bool) (a b : Nat) : cnt p (a + b) = cnt p a + cnt (fun i => p (a + i)) b := by
  induction b with
  | zero => simp [cnt]
  | succ b ih => rw [← Nat.add_assoc, cnt_succ, cnt_succ, ih]; omega
theorem cnt_and (p : Nat → Bool) (c : Bool) (n : Nat) : cnt (fun i => p i && c) n = cnt p n * if c then 1 else 0 := by
  induction n with
  | zero => simp [cnt]
  | succ n ih => unfold cnt; rw [ih]; cases c <;> simp

/-- do the first k words come of the mask? -/
def made (lo ln li : List Int) (m : Nat) : Nat → Bool
  | 0 => true
  | k + 1 => made lo ln li m k && (wd li k == if bitOf m k then wd ln k else wd lo k)
theorem bitOf_low (m k i : Nat) (hi : i < k) : bitOf ((2 ^ k + m : Nat) : Int) i = bitOf (m : Int) i := by
  unfold bitOf
  have e : (((2 ^ k + m : Nat) : Int) / 2 ^ i % 2) = ((m : Int) / 2 ^ i % 2) := by
    obtain ⟨j, rfl⟩ : ∃ j, k = i + (j + 1) := ⟨k - i - 1, by omega⟩
    have h1 : ((2 ^ (i + (j + 1)) + m : Nat) : Int) = (m : Int) + 2 ^ i * (2 * 2 ^ j) := by
      push_cast; rw [Int.pow_add, Int.pow_succ, Int.mul_comm ((2 : Int) ^ j) 2]; omega
    rw [h1, Int.add_mul_ediv_left _ _ (by exact Int.ne_of_gt (Int.pow_pos (by decide)))]
    omega
  rw [e]
theorem bitOf_high (m k : Nat) (hm : m < 2 ^ k) : bitOf (m : Int) k = false ∧ bitOf ((2 ^ k + m : Nat) : Int) k = true := by
  unfold bitOf
  have hp : (0 : Int) < 2 ^ k := Int.pow_pos (by decide)
  have e0 : ((2 ^ k : Nat) : Int) = 2 ^ k := by push_cast; rfl
  have e1 : (m : Int) / 2 ^ k = 0 := Int.ediv_eq_zero_of_lt (by omega) (by rw [← e0]; omega)
  have e2 : ((2 ^ k + m : Nat) : Int) / 2 ^ k = 1 := by
    have h1 : ((2 ^ k + m : Nat) : Int) = (m : Int) + 2 ^ k * 1 := by push_cast; omega
    rw [h1, Int.add_mul_ediv_left _ _ (Int.ne_of_gt hp), e1]; rfl
  rw [e1, e2]; decide
theorem made_low (lo ln li : List Int) (m k : Nat) : ∀ n, n ≤ k → made lo ln li (2 ^ k + m) n = made lo ln li m n
  | 0, _ => rfl
  | n + 1, h => by
    unfold made
    rw [made_low lo ln li m k n (by omega), bitOf_low m k n (by omega)]
theorem msk_cnt (lo ln li : List Int) (k : Nat) : cnt (fun m => made lo ln li m k) (2 ^ k) = msk lo ln li k := by
  induction k with
  | zero => rfl
  | succ k ih =>
    rw [Nat.pow_succ, Nat.mul_two, cnt_add]
    have h1 : cnt (fun m => made lo ln li m (k + 1)) (2 ^ k) = cnt (fun m => made lo ln li m k && (wd li k == wd lo k)) (2 ^ k) :=
      cnt_congr _ fun m hm => by simp only [made]; rw [(bitOf_high m k hm).1]; rfl
    have h2 : cnt (fun m => made lo ln li (2 ^ k + m) (k + 1)) (2 ^ k) = cnt (fun m => made lo ln li m k && (wd li k == wd ln k)) (2 ^ k) :=
      cnt_congr _ fun m hm => by simp only [made]; rw [(bitOf_high m k hm).2, made_low _ _ _ _ _ _ (Nat.le_refl _)]; rfl
    rw [h1, h2, cnt_and, cnt_and, ih]
    show _ = msk lo ln li k * ways lo ln li k
    unfold ways
    simp only [beq_iff_eq]
    rw [Int.mul_add]
theorem made_spec (lo ln li : List Int) (m : Nat) (n : Nat) : made lo ln li m n = true ↔ ∀ i, i < n → wd li i = if bitOf m i then wd ln i else wd lo i := by
  induction n with
  | zero => simp [made]
  | succ n ih =>
    unfold made
    simp only [Bool.and_eq_true, ih, beq_iff_eq]
    constructor
    · rintro ⟨h1, h2⟩ i hi
      by_cases e : i = n
      · subst e; exact h2
      · exact h1 i (by omega)
    · intro h; exact ⟨fun i hi => h i (by omega), h n (by omega)⟩
theorem made_eq (lo ln li : List Int) (m : Nat) (h : li.length = 8) : (mix lo ln m == li) = made lo ln li m 8 := by
  rw [Bool.eq_iff_iff, made_spec]
  constructor
  · intro e i hi
    have e : mix lo ln m = li := by simpa using e
    rw [← e, wd_mix _ _ _ _ hi]
  · intro e
    have : mix lo ln m = li := wd_ext (mix_len ..) h fun i hi => by rw [wd_mix _ _ _ _ hi, e i hi]
    simpa using this
/-- how many of the 256 masks make a line -/
theorem masks_count (lo ln li : List Int) (h : li.length = 8) : cnt (fun m => mix lo ln m == li) 256 = msk lo ln li 8 := by
  rw [← msk_cnt lo ln li 8]
  exact cnt_congr _ fun m _ => made_eq lo ln li m h
/-! ### the laws' own facts -/
theorem mix_same (l : List Int) (mask : Int) (h : l.length = 8) : mix l l mask = l :=
  wd_ext (mix_len ..) h fun i hi => by rw [wd_mix _ _ _ _ hi]; split <;> rfl
theorem mix_word (lo ln : List Int) (mask : Int) (i : Nat) (hi : i < 8) : wd (mix lo ln mask) i = wd lo i ∨ wd (mix lo ln mask) i = wd ln i := by
  rw [wd_mix _ _ _ _ hi]; split
  · exact Or.inr rfl
  · exact Or.inl rfl
theorem mix_one (l : List Int) (at_ : Nat) (v : Int) (mask : Int) (h : l.length = 8) : mix l (l.set at_ v) mask = l ∨ mix l (l.set at_ v) mask = l.set at_ v := by
  cases hb : bitOf mask at_
  · left
    refine wd_ext (mix_len ..) h fun i hi => ?_
    rw [wd_mix _ _ _ _ hi, wd_set _ _ _ _ (by omega)]
    by_cases e : i = at_
    · subst e; simp [hb]
    · simp [e]
  · right
    refine wd_ext (n := 8) (mix_len ..) (by simpa using h) fun i hi => ?_
    rw [wd_mix _ _ _ _ hi, wd_set _ _ _ _ (by omega)]
    by_cases e : i = at_
    · subst e; simp [hb]
    · simp [e]
theorem bitOf_255 (i : Nat) (hi : i < 8) : bitOf 255 i = true := by
  have : i = 0 ∨ i = 1 ∨ i = 2 ∨ i = 3 ∨ i = 4 ∨ i = 5 ∨ i = 6 ∨ i = 7 := by omega
  rcases this with rfl | rfl | rfl | rfl | rfl | rfl | rfl | rfl <;> decide
theorem bitOf_0 (i : Nat) : bitOf 0 i = false := by unfold bitOf; simp
theorem mix_255 (lo ln : List Int) (h : ln.length = 8) : mix lo ln 255 = ln :=
  wd_ext (mix_len ..) h fun i hi => by rw [wd_mix _ _ _ _ hi, bitOf_255 i hi]; rfl
theorem mix_0 (lo ln : List Int) (h : lo.length = 8) : mix lo ln 0 = lo :=
  wd_ext (mix_len ..) h fun i hi => by rw [wd_mix _ _ _ _ hi, bitOf_0]; rfl
theorem mix_again (lo ln : List Int) (mask : Int) : mix (mix lo ln mask) ln mask = mix lo ln mask :=
  wd_ext (mix_len ..) (mix_len ..) fun i hi => by
    rw [wd_mix _ _ _ _ hi, wd_mix _ _ _ _ hi]; split <;> rfl
theorem ways_pos (lo ln li : List Int) (i : Nat) (h : wd li i = wd lo i ∨ wd li i = wd ln i) : 1 ≤ ways lo ln li i := by
  unfold ways
  rcases h with h | h <;> rw [if_pos h] <;> split <;> omega
theorem msk_pos (lo ln li : List Int) (n : Nat) (h : ∀ i, i < n → wd li i = wd lo i ∨ wd li i = wd ln i) : 1 ≤ msk lo ln li n := by
  induction n with
  | zero => simp [msk]
  | succ n ih =>
    have h1 := ih (fun i hi => h i (by omega))
    have h2 := ways_pos lo ln li n (h n (by omega))
    have : msk lo ln li n * 1 ≤ msk lo ln li n * ways lo ln li n := Int.mul_le_mul_of_nonneg_left h2 (by omega)
    show 1 ≤ msk lo ln li n * ways lo ln li n
    omega
theorem msk_mix_pos (lo ln : List Int) (mask : Int) : 0 < msk lo ln (mix lo ln mask) 8 := by
  have := msk_pos lo ln (mix lo ln mask) 8 (fun i hi => mix_word lo ln mask i hi)
  omega
/-- in how many of the first n words two lines are other -/
def diffs (lo ln : List Int) : Nat → Nat
  | 0 => 0
  | n + 1 => diffs lo ln n + if wd lo n = wd ln n then 0 else 1
theorem diffs_succ (lo ln : List Int) (n : Nat) : diffs lo ln (n + 1) = diffs lo ln n + if wd lo n = wd ln n then 0 else 1 := rfl
theorem diffs_le (lo ln : List Int) (n : Nat) : diffs lo ln n ≤ n := by
  induction n with
  | zero => simp [diffs]
  | succ n ih => unfold diffs; split <;> omega
theorem msk_mix (lo ln : List Int) (li : List Int) (n : Nat) (h : ∀ i, i < n → wd li i = wd lo i ∨ wd li i = wd ln i) : msk lo ln li n = 2 ^ (n - diffs lo ln n) := by
  induction n with
  | zero => rfl
  | succ n ih =>
    have h1 := ih (fun i hi => h i (by omega))
    have h2 := h n (by omega)
    have hd := diffs_le lo ln n
    show msk lo ln li n * ways lo ln li n = _
    rw [h1]
    unfold ways
    rw [diffs_succ]
    by_cases e : wd lo n = wd ln n
    · have e1 : wd li n = wd lo n := by rcases h2 with h2 | h2 <;> omega
      have e2 : wd li n = wd ln n := by omega
      rw [if_pos e1, if_pos e2, if_pos e]
      have : n + 1 - (diffs lo ln n + 0) = (n - diffs lo ln n) + 1 := by omega
      rw [this, Int.pow_succ]; rfl
    · rw [if_neg e]
      have : n + 1 - (diffs lo ln n + 1) = n - diffs lo ln n := by omega
      rw [this]
      rcases h2 with h2 | h2
      · rw [if_pos h2, if_neg (by omega)]; simp
      · rw [if_neg (by omega), if_pos h2]; simp
theorem msk_bad (lo ln li : List Int) (i n : Nat) (hi : i < n) (h1 : ¬ wd li i = wd lo i) (h2 : ¬ wd li i = wd ln i) : msk lo ln li n = 0 :=
  msk_zero lo ln li i (by unfold ways; rw [if_neg h1, if_neg h2]; rfl) n hi
theorem msk_old (lo ln : List Int) : msk lo ln lo 8 = msk lo ln ln 8 := by
  rw [msk_mix lo ln lo 8 (fun i _ => Or.inl rfl), msk_mix lo ln ln 8 (fun i _ => Or.inr rfl)]
end Go.Proofs.Ytommjfmglfjgjaa
