/- torn.Mix: plain facts and its contract. -/
import Derived.Test.YtfhcgnkjncfeiaaM
import Derived.Test.YtfhcgnkjncfeiaaMd
namespace Go.Proofs.Ytfhcgnkjncfeiaa
open Go.ChangeShapes Go.WideShapes Go.RowKit

theorem and1 (x : Int) : bits .and .i64 x 1 = x % 2 := by
  show IntKind.i64.wrap (((BitVec.ofInt 64 x &&& BitVec.ofInt 64 1).toNat : Nat) : Int) = x % 2
  have h1 : (BitVec.ofInt 64 1) = 1#64 := by decide
  rw [h1, BitVec.toNat_and]
  have h2 : (1#64).toNat = 1 := rfl
  rw [h2, Nat.and_one_is_mod, BitVec.toNat_ofInt]
  have h3 : (((x % ((2 ^ 64 : Nat) : Int)).toNat % 2 : Nat) : Int) = x % 2 := by
    have : ((2 ^ 64 : Nat) : Int) = 18446744073709551616 := by decide
    rw [this]; omega
  rw [h3, IntWalk.i64_in _ (by omega)]
attribute [go_sem] and1

/-- is bit i of a mask 1? -/
def bitOf (mask : Int) (i : Nat) : Bool := mask / 2 ^ i % 2 == 1
/-- the first k words mixed -/
def mixTo (lo ln : List Int) (mask : Int) (k : Nat) : List Int := (List.range 8).map fun i => if i < k && bitOf mask i then wd ln i else wd lo i
@[go_sem] theorem mixTo_len (lo ln : List Int) (mask : Int) (k : Nat) : (mixTo lo ln mask k).length = 8 := by simp [mixTo]
theorem wd_mixTo (lo ln : List Int) (mask : Int) (k i : Nat) (hi : i < 8) : wd (mixTo lo ln mask k) i = if i < k && bitOf mask i then wd ln i else wd lo i := by
  simp [wd, mixTo, hi]
theorem wd_set (l : List Int) (k : Nat) (v : Int) (i : Nat) (hi : i < l.length) : wd (l.set k v) i = if i = k then v else wd l i := by
  simp only [wd, List.getD]
  rw [List.getElem?_set]
  by_cases h : i = k
  · subst h; simp [hi]
  · simp [h, Ne.symm h]
theorem mixTo_zero (lo ln : List Int) (mask : Int) (h : lo.length = 8) : mixTo lo ln mask 0 = lo :=
  wd_ext (mixTo_len ..) h fun i hi => by rw [wd_mixTo _ _ _ _ _ hi]; simp
theorem mixTo_set (lo ln : List Int) (mask : Int) (k : Nat) (hk : k < 8) (hb : bitOf mask k = true) : (mixTo lo ln mask k).set k (wd ln k) = mixTo lo ln mask (k + 1) :=
  wd_ext (n := 8) (by simp [mixTo_len]) (mixTo_len ..) fun i hi => by
    rw [wd_set _ _ _ _ (by simp [mixTo_len, hi]), wd_mixTo _ _ _ _ _ hi, wd_mixTo _ _ _ _ _ hi]
    by_cases e : i = k
    · subst e; simp [hb]
    · have : (i < k) ↔ (i < k + 1) := by omega
      simp [e, this]
theorem mixTo_keep (lo ln : List Int) (mask : Int) (k : Nat) (hb : bitOf mask k = false) : mixTo lo ln mask k = mixTo lo ln mask (k + 1) :=
  wd_ext (mixTo_len ..) (mixTo_len ..) fun i hi => by
    rw [wd_mixTo _ _ _ _ _ hi, wd_mixTo _ _ _ _ _ hi]
    by_cases e : i = k
    · subst e; simp [hb]
    · have : (i < k) ↔ (i < k + 1) := by omega
      simp [this]

/-- the mix of two lines -/
def mix (lo ln : List Int) (mask : Int) : List Int := mixTo lo ln mask 8
@[go_sem] theorem mix_len (lo ln : List Int) (mask : Int) : (mix lo ln mask).length = 8 := mixTo_len ..
theorem wd_mix (lo ln : List Int) (mask : Int) (i : Nat) (hi : i < 8) : wd (mix lo ln mask) i = if bitOf mask i then wd ln i else wd lo i := by
  unfold mix; rw [wd_mixTo _ _ _ _ _ hi]; simp [hi]
theorem below3 (w : World) (a b c : Obj) : Below w.heap.size w (((w.alloc a).alloc b).alloc c) :=
  (((Below.refl _ _).alloc (Nat.le_refl _) _).alloc (by simp) _).alloc (by simp; omega) _

set_option maxHeartbeats 400000 in
theorem mix_any (lo ln : List Int) (mask : Int) (w : World) (ho : lo.length = 8) (hn : ln.length = 8) :
    Calls Try.prog 83 #[.agg (cs lo), .agg (cs ln), .int .i64 mask] w fun e w' => e = .returned (.agg (cs (mix lo ln mask))) ∧ Below w.heap.size w w' := by
  go_enter Try.func83, Try.ntmps83
  go_wp2
  go_loopw [10] (fun i wr => ∃ k : Nat, k ≤ 8 ∧ i = .int .i64 k ∧ wr = ((w.alloc (.cells (cs (mixTo lo ln mask k)) 55)).alloc (.cells (cs ln) 55)).alloc (.cells z8 55)) (fun i _ => 8 - (intOf i).toNat)
  case atStart => exact ⟨0, by omega, rfl, by rw [mixTo_zero lo ln mask ho]; rfl⟩
  case round =>
    obtain ⟨k, hk, rfl, rfl⟩ := hrel
    by_cases hlt : k < 8
    · go_wp2
      · have hb : bitOf mask k = true := by assumption
        go_roundw
        case rel => exact ⟨k + 1, by omega, by go_num, by rw [mixTo_set lo ln mask k hlt hb]⟩
        case measure => simp [intOf]; omega
      · have hb : bitOf mask k = false := by assumption
        go_roundw
        case rel => exact ⟨k + 1, by omega, by go_num, by rw [mixTo_keep lo ln mask k hb]⟩
        case measure => simp [intOf]; omega
    · obtain rfl : k = 8 := by omega
      go_wp2
      refine ret_row rfl rfl (Try.isAgg55 _) (Try.sizeOf55 _) (c := cs (mix lo ln mask)) ?_ rfl ⟨rfl, below3 ..⟩
      simp [go_sem, mix]

end Go.Proofs.Ytfhcgnkjncfeiaa
