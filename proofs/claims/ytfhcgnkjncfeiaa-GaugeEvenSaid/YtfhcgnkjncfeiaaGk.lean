/- The walk of GaugeEven. -/
import Derived.Test.YtfhcgnkjncfeiaaGj
namespace Go.Proofs.Ytfhcgnkjncfeiaa
open Go.ChangeShapes Go.WideShapes Go.RowKit Fl

/-! ### how even -/
theorem mean_same {m n : Nat} (hm : m ≤ 1000000) (hn : 1 ≤ n ∧ n ≤ 200) : quoW ((n * m : Nat) : Int) n = flInt m := by
  have h1 : n * m ≤ 200 * 1000000 := Nat.mul_le_mul hn.2 hm
  have a := mean_le (s := n * m) (n := n) (m := m) (Nat.le_refl _) (by omega) (by omega) (by omega)
  have b := mean_ge (s := n * m) (n := n) (m := m) (Nat.le_refl _) (by omega) (by omega) (by omega)
  exact Nat.le_antisymm a b
theorem over_same {m n : Nat} (h1 : 1 ≤ m) (hm : m ≤ 1000000) (hn : 1 ≤ n ∧ n ≤ 200) : fdiv (flInt m) (quoW ((n * m : Nat) : Int) n) = some ONE := by
  rw [mean_same hm hn]
  obtain ⟨_, _, a3, a4⟩ := flN m (by omega)
  obtain ⟨_, _, _, x2⟩ := plain_fine a4
  have hO : 0 < ONE := by decide
  exact fdiv_self (by rw [x2]; exact a4) (by rw [x2]; have := a3 h1; omega)
/-- a little above one -/
def CUP : Nat := 4607252787544195072
theorem val_CUP : Nat.ble (val CUP * 64) (U * 65) = true := by kernel_rfl
theorem over_more {k n : Nat} (hk : k ≤ 20) (hn : 2 ≤ n ∧ n ≤ 200) : ∀ z, fdiv (flInt ((k + 1 : Nat) : Int)) (quoW ((n * k + 1 : Nat) : Int) n) = some z → CUP ≤ z := by
  intro z hz
  have h1 : n * k ≤ 200 * 20 := Nat.mul_le_mul hn.2 hk
  obtain ⟨_, q2, q3, q4, q5⟩ := quoN (n * k + 1) n (by omega) (by omega)
  obtain ⟨a1, _, _, a4⟩ := flN (k + 1) (by omega)
  obtain ⟨_, _, x1, x2⟩ := plain_fine a4
  obtain ⟨_, _, y1, y2⟩ := plain_fine q3
  have hL0 : 0 < LOW := by decide
  have hL := q4 (by omega)
  obtain ⟨r, k1, k2⟩ := fdiv_num (x := flInt ((k + 1 : Nat) : Int)) (y := quoW ((n * k + 1 : Nat) : Int) n) (by rw [x2]; exact a4) (by rw [y2]; exact q3) (by rw [y2]; omega)
  rw [x2, y2] at k2
  -- the mean is at most k and a half
  obtain ⟨s, s1, s2⟩ := rung_of (2 * k + 1) 1073 (by omega) (by decide) (by decide)
  have hU : U = 2 * 2 ^ 1073 := by
    have := U_split (a := 1) (b := 1073) rfl
    rwa [Nat.pow_one] at this
  generalize (2 : Nat) ^ 1073 = T at s2 hU
  have hy : quoW ((n * k + 1 : Nat) : Int) n ≤ s := q2.le (by omega) (by
    rw [s2, hU]
    have e : (n * k + 1) * (2 * T) = (2 * (n * k) + 2) * T := by rw [← Nat.mul_assoc]; congr 1; omega
    have e2 : (2 * k + 1) * T * n = ((2 * k + 1) * n) * T := by rw [Nat.mul_right_comm]
    rw [e, e2]
    refine Nat.mul_le_mul_right _ ?_
    rw [Nat.add_mul, Nat.mul_assoc, Nat.mul_comm k n]; omega)
  have hvy : 2 * val (quoW ((n * k + 1 : Nat) : Int) n) ≤ (2 * k + 1) * U := by
    have := val_le hy
    rw [s2] at this
    rw [hU, Nat.mul_left_comm]; omega
  have hg : CUP ≤ r := k2.ge (val_pos (by omega)) (by
    have e1 := Nat.le_of_ble_eq_true val_CUP
    refine Nat.le_of_mul_le_mul_left (c := 128) ?_ (by decide)
    calc 128 * (val CUP * val (quoW ((n * k + 1 : Nat) : Int) n)) = (val CUP * 64) * (2 * val (quoW ((n * k + 1 : Nat) : Int) n)) := by
          rw [show (128 : Nat) = 64 * 2 by decide]; simp only [Nat.mul_assoc, Nat.mul_comm, Nat.mul_left_comm]
      _ ≤ (U * 65) * ((2 * k + 1) * U) := Nat.mul_le_mul e1 hvy
      _ = (65 * (2 * k + 1)) * (U * U) := by simp only [Nat.mul_assoc, Nat.mul_comm, Nat.mul_left_comm]
      _ ≤ (128 * (k + 1)) * (U * U) := Nat.mul_le_mul_right _ (by omega)
      _ = 128 * (val (flInt ((k + 1 : Nat) : Int)) * U) := by rw [a1]; simp only [Nat.mul_assoc])
  have hk1 : z = Ieee.double.word (sg (flInt ((k + 1 : Nat) : Int)) ^^ sg (quoW ((n * k + 1 : Nat) : Int) n)) (min r INF) := by
    rw [hz] at k1; exact Option.some.inj k1
  rw [hk1, x1, y1]
  have e : Ieee.double.word (false ^^ false) (min r INF) = min r INF := word_false _
  rw [e]
  have hI : CUP ≤ INF := by decide
  omega
theorem const_sums (K : Int) (hK : 0 ≤ K ∧ K ≤ 1000) (n : Nat) : hs (fun _ => K) n = n * K ∧ (1 ≤ n → hm (fun _ => K) n = K) ∧ hm (fun _ => K) n ≤ K := by
  have e : heldI K = K := heldI_in (by omega)
  induction n with
  | zero => simp [hs, hm]; omega
  | succ n ih =>
    obtain ⟨h1, h2, h3⟩ := ih
    have e2 : ((n + 1 : Nat) : Int) * K = n * K + K := by rw [Int.natCast_add, Int.add_mul]; simp
    simp only [hs, hm, h1, e, e2]
    exact ⟨trivial, fun _ => by omega, by omega⟩
def bump (K : Int) (j : Nat) : Int := if j = 0 then K + 1 else K
theorem bump_sums (K : Int) (hK : 0 ≤ K ∧ K ≤ 1000) (n : Nat) : hs (bump K) (n + 1) = ((n + 1 : Nat) : Int) * K + 1 ∧ hm (bump K) (n + 1) = K + 1 := by
  have e : heldI K = K := heldI_in (by omega)
  have e' : heldI (K + 1) = K + 1 := heldI_in (by omega)
  induction n with
  | zero => simp only [hs, hm, bump, if_true, e']; simp; omega
  | succ n ih =>
    obtain ⟨h1, h2⟩ := ih
    have e2 : ((n + 1 + 1 : Nat) : Int) * K = ((n + 1 : Nat) : Int) * K + K := by rw [Int.natCast_add (n + 1) 1, Int.add_mul]; simp
    have e3 : bump K (n + 1) = K := by unfold bump; rw [if_neg (by omega)]
    rw [hs, hm, h1, h2, e3, e, e2]
    exact ⟨by omega, by omega⟩
theorem even_one (K n : Nat) (h1 : 1 ≤ K ∧ K ≤ 1000) (hn : 1 ≤ n ∧ n ≤ 200) : unevenF (fun _ => (K : Int)) n = ONE := by
  obtain ⟨s, m, _⟩ := const_sums (K : Int) (by omega) n
  have m := m hn.1
  have e : ((n : Int) * K) = ((n * K : Nat) : Int) := (Int.natCast_mul n K).symm
  have hp : 1 ≤ n * K := Nat.mul_pos (by omega) (by omega)
  rcases uneven_eq (fun _ => (K : Int)) n hn with ⟨z, _⟩ | ⟨_, z, _⟩
  · rw [s, e] at z; omega
  · rw [s, m, e, over_same h1.1 (by omega) hn] at z
    exact (Option.some.inj z).symm
theorem even_bump1 (K : Nat) (h1 : K ≤ 1000) : unevenF (bump K) 1 = ONE := by
  obtain ⟨s, m⟩ := bump_sums (K : Int) (by omega) 0
  rcases uneven_eq (bump K) 1 (by decide) with ⟨z, _⟩ | ⟨_, z, _⟩
  · rw [s] at z; simp at z; omega
  · rw [s, m] at z
    have o := over_same (m := K + 1) (n := 1) (by omega) (by omega) (by decide)
    have e1 : (((0 + 1 : Nat) : Int) * (K : Int) + 1) = ((1 * (K + 1) : Nat) : Int) := by omega
    have e2 : ((K : Int) + 1) = ((K + 1 : Nat) : Int) := by omega
    rw [e1, e2] at z
    rw [o] at z
    exact (Option.some.inj z).symm
theorem even_bump (K n : Nat) (h1 : K ≤ 20) (hn : 2 ≤ n ∧ n ≤ 200) : CUP ≤ unevenF (bump K) n ∧ unevenF (bump K) n ≤ HIGH := by
  obtain ⟨t, rfl⟩ : ∃ t, n = t + 1 := ⟨n - 1, by omega⟩
  obtain ⟨s, m⟩ := bump_sums (K : Int) (by omega) t
  have e : (((t + 1 : Nat) : Int) * K + 1) = (((t + 1) * K + 1 : Nat) : Int) := by have := Int.natCast_mul (t + 1) K; omega
  have e2 : ((K : Int) + 1) = ((K + 1 : Nat) : Int) := by omega
  rcases uneven_eq (bump K) (t + 1) (by omega) with ⟨z, _⟩ | ⟨_, z, _, zh, _⟩
  · rw [s, e] at z; omega
  · rw [s, m, e, e2] at z
    exact ⟨over_more h1 hn _ z, zh⟩
theorem PutsAt.congr {w : World} {base Mb Cb n i : Nat} {wear wear' : Nat → Int} {writes : Int} (h : PutsAt w base Mb Cb n i wear writes) (e : ∀ j, j < n → wear j = wear' j) : PutsAt w base Mb Cb n i wear' writes :=
  ⟨⟨h.hm.hM, h.hm.hL.congr e (fun _ _ => rfl), h.hm.ne⟩, h.b1, h.b2, h.hw, fun j hj => by rw [← e j hj]; exact h.hr j hj⟩
theorem even_step (r : Int) (i : Nat) : updI (fun j => if j < i then r + 1 else r) i ((fun j => if j < i then r + 1 else r) i + 1) = fun j => if j < i + 1 then r + 1 else r := by
  funext j
  unfold updI
  simp only [if_neg (Nat.lt_irrefl i)]
  by_cases h : j = i
  · subst h; simp
  · rw [if_neg h]
    by_cases h2 : j < i
    · rw [if_pos h2, if_pos (by omega)]
    · rw [if_neg h2, if_neg (by omega)]
theorem bump_step (K : Nat) (n : Nat) : ∀ j, j < n → updI (fun _ => (K : Int)) 0 ((K : Int) + 1) j = bump K j := by
  intro j _
  unfold updI bump
  rfl

set_option maxRecDepth 100000 in
set_option maxHeartbeats 6400000 in
theorem gaugeEven_walk (a b : Int) (w : World) (_ : (Lit.int .i64 a).wf = true) (_ : (Lit.int .i64 b).wf = true) :
    Calls Try.prog 16 #[.int .i64 a, .int .i64 b] w fun e w' => e = .returned (.bool true) ∧ Below w.heap.size w w' := by
  have ha0 : 0 ≤ IntKind.u64.wrap a := by rw [IntKind.wrap_u64]; omega
  have hb0 : 0 ≤ IntKind.u64.wrap b := by rw [IntKind.wrap_u64]; omega
  obtain ⟨q, hq⟩ : ∃ q, (IntKind.u64.wrap a).tmod 50 = q := ⟨_, rfl⟩
  have hqb : 0 ≤ q ∧ q < 50 := by rw [← hq]; exact ⟨Int.tmod_nonneg _ ha0, Int.tmod_lt_of_pos _ (by decide)⟩
  obtain ⟨N, hN⟩ : ∃ N : Nat, 1 + q = (N : Int) := ⟨(1 + q).toNat, by omega⟩
  have hNb : 1 ≤ N ∧ N ≤ 50 := by omega
  obtain ⟨K, hK⟩ : ∃ K : Nat, (IntKind.u64.wrap b).tmod 20 = (K : Int) := ⟨((IntKind.u64.wrap b).tmod 20).toNat, by have := Int.tmod_nonneg 20 hb0; omega⟩
  have hKb : K < 20 := by have := Int.tmod_lt_of_pos (IntKind.u64.wrap b) (by decide : (0 : Int) < 20); omega
  have w1 : wrap64 q = q := by unfold wrap64; omega
  have w2 : wrap64 (N : Int) = N := by unfold wrap64; omega
  have w3 : IntKind.i64.wrap (1 + q) = N := by rw [hN, IntKind.wrap_i64]; omega
  have w4 : wrap64 (K : Int) = K := wrap64_nat (by omega)
  have HNb := Lib.hid hNb
  have HKb := Lib.hid hKb
  have KN := fun w => Lib.hid (puts_new N w (by omega))
  clear hNb hKb hqb ha0 hb0
  go_enter Try.func16, Try.ntmps16
  go_wp2_with fail
  refine (KN _).out.mono ?_
  rintro _ wa ⟨Mb, Cb, rfl, hp, hb⟩
  have HP := Lib.hid hp
  have HB := Lib.hid hb
  clear hp hb
  go_wp2_with fail
  go_loopw [21] (fun iv wr => ∃ r : Nat, r ≤ K ∧ iv = .int .i64 r ∧ (∃ t writes, t ≤ 50 * r ∧ PutsAt wr w.heap.size Mb Cb N t (fun _ => (r : Int)) writes) ∧ Below w.heap.size w wr) (fun iv _ => K - (intOf iv).toNat)
  case atStart => exact ⟨0, by omega, rfl, ⟨0, 0, by omega, HP.out⟩, HB.out⟩
  case round =>
    obtain ⟨r, hr, rfl, ⟨t, writes, ht, hp⟩, hb⟩ := hrel
    clear HP HB
    have HP := Lib.hid hp
    have HB := Lib.hid hb
    have HT := Lib.hid ht
    clear hp hb ht
    by_cases hlt : r < K
    · have hltz : (r : Int) < (K : Int) := by omega
      have wr' : IntKind.i64.wrap ((r : Int) + 1) = (r : Int) + 1 := by have := HKb.out; rw [IntKind.wrap_i64]; omega
      have HLT := Lib.hid hlt
      clear hlt hr
      go_wp2_with fail
      go_loopw [24] (fun iv wr => ∃ i : Nat, i ≤ N ∧ iv = .int .i64 i ∧ (∃ t writes, t ≤ 50 * r + i ∧ PutsAt wr w.heap.size Mb Cb N t (fun j => if j < i then (r : Int) + 1 else r) writes) ∧ Below w.heap.size w wr) (fun iv _ => N - (intOf iv).toNat)
      case atStart => exact ⟨0, by omega, rfl, ⟨t, writes, HT.out, HP.out.congr (fun j _ => by rw [if_neg (by omega)])⟩, HB.out⟩
      case round =>
        obtain ⟨i, hi, rfl, ⟨t2, writes2, ht2, hp2⟩, hb2⟩ := hrel
        clear HP HB HT
        have HP := Lib.hid hp2
        have HB := Lib.hid hb2
        have HT := Lib.hid ht2
        clear hp2 hb2 ht2
        by_cases hli : i < N
        · have hliz : (i : Int) < (N : Int) := by omega
          have wi : IntKind.i64.wrap ((i : Int) + 1) = (i : Int) + 1 := by have := HNb.out; rw [IntKind.wrap_i64]; omega
          have KP := Lib.hid (puts_put HP.out (by have := HT.out; have := HKb.out; have := HLT.out; have := HNb.out; omega) HB.out.size i hli [1, 0, 0, 0, 0, 0, 0, 0] rfl)
          have HLI := Lib.hid hli
          clear hli hi
          go_wp2_with fail
          refine KP.out.mono ?_
          rintro _ w5 ⟨rfl, hp5, hb5, _⟩
          rw [even_step] at hp5
          have HP5 := Lib.hid hp5
          have HB5 := Lib.hid (HB.out.trans hb5)
          clear hp5 hb5 KP
          go_wp2_with fail
          exact ⟨⟨i + 1, HLI.out, by simp, ⟨_, _, by have := HT.out; omega, HP5.out⟩, HB5.out⟩, by have := HLI.out; simp only [intOf]; omega⟩
        · have : i = N := by omega
          subst this
          have hliz : ¬ (i : Int) < (i : Int) := by omega
          clear hli hi
          go_wp2_with fail
          exact ⟨⟨r + 1, HLT.out, by simp, ⟨t2, writes2, by have := HT.out; have := HNb.out; omega, HP.out.congr (fun j hj => by rw [if_pos hj]; simp)⟩, HB.out⟩, by have := HLT.out; simp only [intOf]; omega⟩
    · have : r = K := by omega
      subst this
      have hltz : ¬ (r : Int) < (r : Int) := by omega
      have l1 : cntL 0 N N = N := by unfold cntL; omega
      have e1 : (fun j => (fun _ : Nat => (r : Int)) (fromL 0 + j)) = fun _ => (r : Int) := rfl
      have A1 : Calls Try.prog 49 #[.pointer (some ⟨Mb, 0, none⟩), .int .i64 0, .int .i64 N] wr _ := guneven_in HP.out.hm (by have := HNb.out; omega) 0 N
      rw [l1, e1] at A1
      have l1' := Lib.hid l1
      clear hlt hr e1 l1
      by_cases hr0 : r = 0
      · have ez : unevenF (fun _ => (r : Int)) N = NANW := by rw [hr0]; exact uneven_noughts N (by have := HNb.out; omega)
        rw [ez] at A1
        have A1 := Lib.hid A1
        have f1 : feq NANW NANW = false := by decide
        have z1 : ((r : Int) == 0) = true := by rw [hr0]; rfl
        have z2 : decide (r = 0) = true := decide_eq_true hr0
        have HR0 := Lib.hid hr0
        clear ez hr0
        go_wp2_with fail
        refine A1.out.mono ?_
        rintro _ wc ⟨rfl, hb1⟩
        have HB1 := Lib.hid (HB.out.trans (hb1.mono HB.out.size))
        clear hb1
        go_wp2_with fail
        refine (awake22 _).mono ?_
        rintro _ w9 ⟨rfl, hb⟩
        go_wp2
        go_ret
        exact ⟨rfl, HB1.out.trans (hb.mono HB1.out.size)⟩
      · have ez : unevenF (fun _ => (r : Int)) N = ONE := even_one r N (by have := HKb.out; omega) (by have := HNb.out; omega)
        rw [ez] at A1
        have A1 := Lib.hid A1
        have f1 : feq ONE 4607182418800017408 = true := by kernel_rfl
        have z1 : ((r : Int) == 0) = false := by simp; exact hr0
        have z2 : decide (r = 0) = false := decide_eq_false hr0
        have A2 : ∀ w', Below wr.heap.size wr w' → Calls Try.prog 48 #[.pointer (some ⟨Mb, 0, none⟩), .int .i64 0, .agg (cs [2, 0, 0, 0, 0, 0, 0, 0])] w' _ := fun w' hb =>
          puts_put (w := w') ⟨HP.out.hm.below hb, HP.out.b1, HP.out.b2, HP.out.hw, HP.out.hr⟩ (by have := HT.out; have := HKb.out; omega) (Nat.le_trans HB.out.size hb.size) 0 (by have := HNb.out; omega) [2, 0, 0, 0, 0, 0, 0, 0] rfl
        have A2 := Lib.hid A2
        have n0 : ¬ r = 0 := hr0
        clear ez hr0
        go_wp2_with fail
        refine A1.out.mono ?_
        rintro _ wc ⟨rfl, hb1⟩
        have HB1 := Lib.hid hb1
        clear hb1
        go_wp2_with fail
        refine (A2.out _ HB1.out).mono ?_
        rintro _ wd ⟨rfl, hp5, hb5, _⟩
        have hp6 := hp5.congr (bump_step r N)
        have HB5 := Lib.hid ((HB.out.trans (HB1.out.mono HB.out.size)).trans hb5)
        have e2 : (fun j => bump (r : Int) (fromL 0 + j)) = bump r := by funext j; rw [show fromL 0 = 0 from rfl, Nat.zero_add]
        have A3 : Calls Try.prog 49 #[.pointer (some ⟨Mb, 0, none⟩), .int .i64 0, .int .i64 N] wd _ := guneven_in hp6.hm (by have := HNb.out; omega) 0 N
        rw [l1'.out, e2] at A3
        clear hp5 hp6 hb5 e2
        by_cases hN1 : N = 1
        · have ev : unevenF (bump (r : Int)) N = ONE := by rw [hN1]; exact even_bump1 r (by have := HKb.out; omega)
          rw [ev] at A3
          have A3 := Lib.hid A3
          have y1 : ((N : Int) == 1) = true := by rw [hN1]; rfl
          have y2 : decide (N = 1) = true := decide_eq_true hN1
          have HN1 := Lib.hid hN1
          clear ev hN1
          go_wp2_with fail
          refine A3.out.mono ?_
          rintro _ we ⟨rfl, hb6⟩
          have HB6 := Lib.hid (HB5.out.trans (hb6.mono HB5.out.size))
          clear hb6
          go_wp2_with fail
          refine (awake22 _).mono ?_
          rintro _ w9 ⟨rfl, hb⟩
          go_wp2
          go_ret
          exact ⟨rfl, HB6.out.trans (hb.mono HB6.out.size)⟩
        · obtain ⟨v1, v2⟩ := even_bump r N (by have := HKb.out; omega) (by have := HNb.out; omega)
          have hI : HIGH < INF := by decide
          have hCU : 4607182418800017408 < CUP := by decide
          have dv : Wd (unevenF (bump (r : Int)) N) := (plain_fine (show unevenF (bump (r : Int)) N < INF by omega)).1
          have rv : rank (unevenF (bump (r : Int)) N) = unevenF (bump (r : Int)) N := rank_plain (by omega)
          have rO : rank 4607182418800017408 = 4607182418800017408 := rank_plain (r := 4607182418800017408) (by decide)
          have cv : decide (0 < ecmp (unevenF (bump (r : Int)) N) 4607182418800017408) = true := decide_eq_true (by rw [ecmp_gt_iff, rv, rO]; omega)
          have A3 := Lib.hid A3
          have d1 : Wd 4607182418800017408 := by unfold Wd; decide
          generalize unevenF (bump (r : Int)) N = vv at A3 dv cv v1 v2 rv
          have y1 : ((N : Int) == 1) = false := by simp; omega
          have y2 : decide (N = 1) = false := decide_eq_false hN1
          have y3 : decide (1 < (N : Int)) = true := decide_eq_true (by have := HNb.out; omega)
          have y4 : decide (1 < N) = true := decide_eq_true (by have := HNb.out; omega)
          clear hN1 v1 v2 hI hCU rv rO
          go_wp2_with fail
          refine A3.out.mono ?_
          rintro _ we ⟨rfl, hb6⟩
          have HB6 := Lib.hid (HB5.out.trans (hb6.mono HB5.out.size))
          clear hb6
          go_wp2_with fail
          refine (cmp_any _ _ _ dv d1).mono ?_
          rintro _ _ ⟨rfl, rfl⟩
          go_wp2_with fail
          refine (awake22 _).mono ?_
          rintro _ w9 ⟨rfl, hb⟩
          go_wp2
          go_ret
          exact ⟨rfl, HB6.out.trans (hb.mono HB6.out.size)⟩
end Go.Proofs.Ytfhcgnkjncfeiaa
