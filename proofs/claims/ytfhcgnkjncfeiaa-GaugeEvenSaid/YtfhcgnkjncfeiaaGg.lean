/- The gauge laws' awake; the walk of GaugeEnds. -/
import Derived.Test.YtfhcgnkjncfeiaaGf
namespace Go.Proofs.Ytfhcgnkjncfeiaa
open Go.ChangeShapes Go.WideShapes Go.RowKit Fl

/-- the wear of two lines of which the first was written once -/
def one0 (j : Nat) : Int := if j = 0 then 0 + 1 else 0
set_option maxRecDepth 100000 in
set_option maxHeartbeats 6400000 in
theorem awake22 (w : World) : Calls Try.prog 50 #[] w fun e w' => e = .returned (.bool true) ∧ Below w.heap.size w w' := by
  have c1 : lifeF 1 4 = 4604930618986332160 := by kernel_rfl
  have c2 : lifeF 9 (-1) = 9218868437227405312 := by kernel_rfl
  have c3 : unevenF (fun j => one0 (fromL 0 + j)) (cntL 0 2 2) = 4611686018427387904 := by kernel_rfl
  have c4 : cntL 0 9 2 = 2 := by decide
  have f1 : feq 4604930618986332160 4604930618986332160 = true := by kernel_rfl
  have f2 : flt 9218868437227405311 9218868437227405312 = true := by kernel_rfl
  have f3 : feq NANW NANW = false := by kernel_rfl
  have f4 : feq 4611686018427387904 4611686018427387904 = true := by kernel_rfl
  have K1 : Calls Try.prog 55 #[.slice none 0 0, .slice none 0 0] w _ := worst_any _ _ 0 0 (fun _ => 0) (fun _ => 0) w (Or.inl ⟨none, 0, rfl, rfl⟩) (Or.inl ⟨none, 0, rfl, rfl⟩) (fun _ _ => by decide) (by decide)
  have e0 : worstF (fun _ => 0) (limF 0 (fun _ => 0)) 0 = NANW := rfl
  rw [e0] at K1
  have K1' := Lib.hid K1
  have K2 : ∀ w, Calls Try.prog 47 #[.int .i64 2, .slice none 0 0] w _ := fun w => mnew_any 2 w (by decide)
  have K2' := Lib.hid K2
  clear K1 K2 e0
  go_enter Try.func50, Try.ntmps50
  go_wp2_with fail
  refine K1'.out.mono ?_
  rintro _ w1 ⟨rfl, hb1⟩
  go_wp2_with fail
  refine (K2'.out _).mono ?_
  rintro _ w2 ⟨Mb, Cb, rfl, hm, hM, hC, hb2⟩
  have hp : Calls Try.prog 48 #[.pointer (some ⟨Mb, 0, none⟩), .int .i64 0, .agg (cs [1, 0, 0, 0, 0, 0, 0, 0])] w2 _ := put_in (base := w1.heap.size) hm 0 (by decide) (by decide) [1, 0, 0, 0, 0, 0, 0, 0] rfl (by decide) (by decide) hM hC hb2.size
  have HB2 := Lib.hid (hb1.trans (hb2.mono hb1.size))
  have HS1 := Lib.hid hb1.size
  have K3 := Lib.hid hp
  clear hb1 hb2 hm hM hC hp K1' K2'
  go_wp2_with fail
  refine K3.out.mono ?_
  rintro _ w3 ⟨rfl, hm3, hb3, _⟩
  have hm3' : Mem w3 Mb Cb 2 one0 (fun _ => -1) (0 + 1) := hm3
  have HM3 := Lib.hid hm3'
  have HB3 := Lib.hid (HB2.out.trans (hb3.mono HS1.out))
  clear hm3 hm3' hb3 K3 HB2 HS1
  go_wp2_with fail
  refine (life_any _ _ _ (by decide)).mono ?_
  rintro _ _ ⟨rfl, d1, rfl⟩
  rw [c1]
  go_wp2_with fail
  refine (life_any _ _ _ (by decide)).mono ?_
  rintro _ _ ⟨rfl, d2, rfl⟩
  rw [c2]
  go_wp2_with fail
  refine (isInf1_any _ _).mono ?_
  rintro _ _ ⟨rfl, rfl⟩
  rw [f2]
  have HM4 : ∀ d, Hid (Mem (w3.drewN d) Mb Cb 2 one0 (fun _ => -1) (0 + 1)) := fun d => Lib.hid ⟨HM3.out.hM, HM3.out.hL, HM3.out.ne⟩
  have HB4 : ∀ d, Hid (Below w.heap.size w (w3.drewN d)) := fun d => Lib.hid (below_drawn HB3.out)
  go_wp2_with fail
  refine (guneven_in (HM4 _).out (by decide) 0 2).mono ?_
  rintro _ w5 ⟨rfl, hb5⟩
  rw [c3]
  have HM5 := Lib.hid ((HM4 _).out.below hb5)
  have HB5 := Lib.hid ((HB4 _).out.trans (hb5.mono (HB4 _).out.size))
  clear hb5 HM4 HB4 HM3 HB3
  go_wp2_with fail
  refine (wears_in HM5.out (by decide) 0 9).mono ?_
  rintro _ w6 ⟨v, rfl, hs, hb6⟩
  rw [c4] at hs
  obtain ⟨ao, cap, rfl⟩ := hs.form
  have HB6 := Lib.hid (HB5.out.trans (hb6.mono HB5.out.size))
  clear hs hb6
  go_wp2
  go_ret
  exact ⟨rfl, HB6.out⟩
end Go.Proofs.Ytfhcgnkjncfeiaa
