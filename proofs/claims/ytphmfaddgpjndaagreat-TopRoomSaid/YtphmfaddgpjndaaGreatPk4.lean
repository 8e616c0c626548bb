/- Contracts and laws of their own, used by the claim's theorem: Contracts of package block; rows of structs. -/
import Derived.Test.YtphmfaddgpjndaaGreatPk3
import Derived.Deep.RegionHeld3
namespace Go.Proofs.YtphmfaddgpjndaaGreat
open Go.ChangeShapes Go.WideShapes Go.RowKit

/-! ### rows of structs -/
/-- a slice of structs, in a block of cells -/
structure RowSl (w : World) (B : Nat) (v : Value) (size n : Nat) (F : Nat → Nat → Value) : Prop where
  sl : SlOf w B v size n F
  ob : 0 < n → ∀ g off c, v = .slice (some ⟨g, off, none⟩) n c → ∃ c ty, obj w g = some (.cells c ty (0, 0))
section
variable {w w' : World} {B size n : Nat} {v : Value} {F G : Nat → Nat → Value}
theorem RowSl.kept {L : List Nat} (h : RowSl w B v size n F) (q : Kept L w w') (hL : ∀ x ∈ L, x < B) : RowSl w' B v size n F := by
  refine ⟨h.sl.kept q hL, fun h0 g off c e => ?_⟩
  obtain ⟨c1, ty, ho⟩ := h.ob h0 g off c e
  rcases h.sl with ⟨ao, cap, e2, e3⟩ | ⟨g2, off2, c2, e2, h1, _, _, hB, h3⟩
  · omega
  · obtain ⟨⟨rfl, rfl⟩, rfl⟩ : (g = g2 ∧ off = off2) ∧ c = c2 := by rw [e] at e2; simpa using e2
    exact ⟨c1, ty, q.keep ho fun hg => by have := hL g hg; omega⟩
theorem RowSl.below (h : RowSl w B v size n F) (k : Below w.heap.size w w') : RowSl w' B v size n F := h.kept (below_kept k) (by simp)
theorem RowSl.alloc (h : RowSl w B v size n F) (o : Obj) : RowSl (w.alloc o) B v size n F := h.below ((Below.refl _ _).alloc (Nat.le_refl _) _)
theorem RowSl.congr (h : RowSl w B v size n F) (hF : ∀ i, i < n → ∀ t, t < size → F i t = G i t) : RowSl w B v size n G := ⟨h.sl.congr hF, h.ob⟩
theorem RowSl.mono {B' : Nat} (h : RowSl w B v size n F) (hB : B' ≤ B) : RowSl w B' v size n F := ⟨h.sl.mono hB, h.ob⟩
theorem RowSl.nil : RowSl w B (.slice none 0 0) size 0 F := ⟨SlOf.nil, fun h => by omega⟩
theorem RowSl.form (h : RowSl w B v size n F) : ∃ ao cap, v = .slice ao n cap := h.sl.form
/-- its cells, and its rows -/
theorem RowSl.cells (h : RowSl w B v size n F) (h0 : 0 < n) : ∃ g off cap, v = .slice (some ⟨g, off, none⟩) n cap ∧ n ≤ cap ∧ cap ≤ 9223372036854775807 ∧ B ≤ g ∧ g < w.heap.size ∧ (∃ c ty, obj w g = some (.cells c ty (0, 0))) ∧ ∀ i, i < n → ∀ t, t < size → cellAt (obj w g) (off + i * size + t) = some (F i t) := by
  obtain ⟨g, off, cap, e, h1, h2, h3, h4⟩ := h.sl.cells h0
  obtain ⟨c, ty, ho⟩ := h.ob h0 g off cap e
  exact ⟨g, off, cap, e, h1, h2, h3, lt_of_obj ho, ⟨c, ty, ho⟩, h4⟩
theorem own_row {base : Nat} {e : TypeId} (h : w.ownsRow base e size v n (flatF size F n)) (hz : n = 0 → v = .slice none 0 0) : RowSl w base v size n F := by
  refine ⟨own_sl h hz, fun h0 g off c e => ?_⟩
  rcases h.2 with ⟨_, e⟩ | ⟨g2, cap, cur, hv, hb, hg, _⟩
  · omega
  · obtain ⟨⟨rfl, rfl⟩, rfl⟩ : (g = g2 ∧ off = 0) ∧ c = cap := by rw [e] at hv; simpa using hv
    exact ⟨cur, _, hg⟩
end

/-! ### bits -/
theorem andu1 (x : Int) : bits .and .u64 x 1 = x % 2 := by
  show IntKind.u64.wrap (((BitVec.ofInt 64 x &&& BitVec.ofInt 64 1).toNat : Nat) : Int) = x % 2
  have h1 : (BitVec.ofInt 64 1) = 1#64 := by decide
  rw [h1, BitVec.toNat_and]
  have h2 : (1#64).toNat = 1 := rfl
  rw [h2, Nat.and_one_is_mod, BitVec.toNat_ofInt]
  have h3 : (((x % ((2 ^ 64 : Nat) : Int)).toNat % 2 : Nat) : Int) = x % 2 := by
    have : ((2 ^ 64 : Nat) : Int) = 18446744073709551616 := by decide
    rw [this]; omega
  rw [h3, IntKind.wrap_u64]; omega
theorem oru1 (x : Nat) (h : x < 1000000) : bits .or .u64 ((2 * x : Nat) : Int) 1 = ((2 * x + 1 : Nat) : Int) := by
  show IntKind.u64.wrap (((BitVec.ofInt 64 ((2 * x : Nat) : Int) ||| BitVec.ofInt 64 1).toNat : Nat) : Int) = _
  have h1 : (BitVec.ofInt 64 1) = 1#64 := by decide
  rw [h1, BitVec.toNat_or, BitVec.toNat_ofInt]
  have h2 : (1#64).toNat = 1 := rfl
  have h3 : (((2 * x : Nat) : Int) % ((2 ^ 64 : Nat) : Int)).toNat = 2 * x := by
    have : ((2 ^ 64 : Nat) : Int) = 18446744073709551616 := by decide
    rw [this]; omega
  rw [h2, h3]
  have h4 : 2 * x ||| 1 = 2 * x + 1 := by
    have := Nat.two_pow_add_eq_or_of_lt (i := 1) (b := 1) (by decide) x
    rw [Nat.pow_one] at this
    exact this.symm
  rw [h4, IntKind.wrap_u64]; omega

/-! ### package block -/
/-- a header -/
def hdr (size : Nat) (used : Bool) : Nat := 2 * size + (if used = true then 1 else 0)
set_option maxHeartbeats 400000 in
theorem bmay_any (s : Nat) (h : 2 ≤ s ∧ s ≤ 512) (w : World) : Calls Tryz.prog 83 #[.int .i64 s] w fun e w' => e = .returned (.bool true) ∧ w = w' := by
  have d1 : (s : Int) ≥ 2 := by omega
  have d2 : (s : Int) ≤ 512 := by omega
  clear h
  go_enter Tryz.func83, Tryz.ntmps83
  go_wp2
  go_ret
  exact ⟨rfl, rfl⟩
set_option maxHeartbeats 800000 in
theorem bword_any (s : Nat) (u : Bool) (h : 2 ≤ s ∧ s ≤ 512) (w : World) : Calls Tryz.prog 90 #[.int .i64 s, .bool u] w fun e w' => e = .returned (.int .u64 (hdr s u : Nat)) ∧ w = w' := by
  have K := Lib.hid (bmay_any s h w)
  have w1 : IntKind.u64.wrap (s : Int) = (s : Int) := by rw [IntKind.wrap_u64]; omega
  obtain ⟨d, hd⟩ : ∃ d, 2 * s = d := ⟨_, rfl⟩
  have w2 : IntKind.u64.wrap ((s : Int) * 2) = (d : Int) := by rw [IntKind.wrap_u64]; omega
  have e1 := oru1 s (by omega)
  rw [hd] at e1
  cases u
  · have e2 : hdr s false = d := by unfold hdr; rw [hd]; rfl
    rw [e2]
    clear h hd e2
    go_enter Tryz.func90, Tryz.ntmps90
    go_wp2_with (go_at_call 83; refine K.out.mono ?_; rintro _ _ ⟨rfl, rfl⟩)
    go_ret
    exact ⟨rfl, rfl⟩
  · have e2 : hdr s true = d + 1 := by unfold hdr; rw [hd]; rfl
    rw [e2]
    obtain ⟨d1, hd1⟩ : ∃ d1, d + 1 = d1 := ⟨_, rfl⟩
    rw [hd1] at e1 ⊢
    clear h hd e2 hd1
    go_enter Tryz.func90, Tryz.ntmps90
    go_wp2_with (go_at_call 83; refine K.out.mono ?_; rintro _ _ ⟨rfl, rfl⟩)
    go_ret
    exact ⟨rfl, rfl⟩
set_option maxHeartbeats 800000 in
theorem parse_any (s : Nat) (u : Bool) (h : 2 ≤ s ∧ s ≤ 512) (w : World) : Calls Tryz.prog 47 #[.int .u64 (hdr s u : Nat)] w fun e w' => e = .returned (.tuple #[.int .i64 s, .bool u, .bool true]) ∧ w = w' := by
  have K := Lib.hid (bmay_any s h w)
  obtain ⟨d, hd⟩ : ∃ d, hdr s u = d := ⟨_, rfl⟩
  have hd2 : d = 2 * s + (if u = true then 1 else 0) := hd.symm
  have e1 : (d : Int) / 2 = (s : Int) := by split at hd2 <;> omega
  have e2 : (d : Int) % 2 = if u = true then 1 else 0 := by split at hd2 <;> simp_all <;> omega
  have w1 : IntKind.i64.wrap (s : Int) = (s : Int) := by rw [IntKind.wrap_i64]; omega
  have w2 : IntKind.u64.wrap (s : Int) = (s : Int) := by rw [IntKind.wrap_u64]; omega
  have d1 : ¬ (s : Int) > 512 := by omega
  have e3 := andu1 (d : Int)
  rw [hd]
  clear hd hd2 h
  cases u
  · rw [e2] at e3
    simp only [Bool.false_eq_true, if_false] at e3
    clear e2
    go_enter Tryz.func47, Tryz.ntmps47
    go_wp2_with (go_at_call 83; refine K.out.mono ?_; rintro _ _ ⟨rfl, rfl⟩)
    go_ret3
    exact ⟨rfl, rfl⟩
  · rw [e2] at e3
    simp only [if_true] at e3
    clear e2
    go_enter Tryz.func47, Tryz.ntmps47
    go_wp2_with (go_at_call 83; refine K.out.mono ?_; rintro _ _ ⟨rfl, rfl⟩)
    go_ret3
    exact ⟨rfl, rfl⟩
set_option maxHeartbeats 800000 in
theorem maywords_any (L : Nat) (h : 1 ≤ L ∧ L ≤ 64) (w : World) : Calls Tryz.prog 84 #[.int .i64 (L * 8 : Nat)] w fun e w' => e = .returned (.bool true) ∧ w = w' := by
  have e1 : ((L * 8 : Nat) : Int).tmod 8 = 0 := by have := tmod_nat (L * 8) 8; rw [Nat.mul_mod_left] at this; exact this
  obtain ⟨N, hN⟩ : ∃ N, L * 8 = N := ⟨_, rfl⟩
  rw [hN] at e1 ⊢
  have d1 : (N : Int) ≥ 8 := by omega
  have d2 : (N : Int) ≤ 512 := by omega
  have e2 : (N : Int) % 8 = 0 := by omega
  have e3 : N % 8 = 0 := by omega
  clear h hN
  go_enter Tryz.func84, Tryz.ntmps84
  go_wp2
  go_ret
  exact ⟨rfl, rfl⟩
end Go.Proofs.YtphmfaddgpjndaaGreat

/- Blocks side by side; contracts of package chain. -/
namespace Go.Proofs.YtphmfaddgpjndaaGreat
open Go.ChangeShapes Go.WideShapes Go.RowKit

/-- blocks side by side -/
structure Bs where
  n : Nat
  sz : Nat → Nat
  us : Nat → Bool
/-- where a block begins -/
def Bs.at (b : Bs) : Nat → Nat
  | 0 => 0
  | k + 1 => b.at k + b.sz k
/-- those of a heap of N words -/
structure Bs.Ok (b : Bs) (N : Nat) : Prop where
  two : ∀ i, i < b.n → 2 ≤ b.sz i
  sum : b.at b.n = N
  alt : ∀ i, i + 1 < b.n → b.us i = true ∨ b.us (i + 1) = true
  big : 8 ≤ N ∧ N ≤ 512 ∧ N % 8 = 0
section
variable {b : Bs} {N : Nat}
theorem Bs.at_mono (b : Bs) {i j : Nat} (h : i ≤ j) : b.at i ≤ b.at j := by
  induction j with
  | zero => have : i = 0 := by omega
            subst this; exact Nat.le_refl _
  | succ j ih =>
    by_cases e : i = j + 1
    · subst e; exact Nat.le_refl _
    · exact Nat.le_trans (ih (by omega)) (Nat.le_add_right _ _)
theorem Bs.Ok.le (h : b.Ok N) {i : Nat} (hi : i < b.n) : b.at i + b.sz i ≤ N := by
  rw [← h.sum]; exact b.at_mono (i := i + 1) (by omega)
theorem Bs.Ok.at_le (h : b.Ok N) {i : Nat} (hi : i ≤ b.n) : b.at i ≤ N := by rw [← h.sum]; exact b.at_mono hi
theorem Bs.Ok.size (h : b.Ok N) {i : Nat} (hi : i < b.n) : 2 ≤ b.sz i ∧ b.sz i ≤ 512 := by
  have h1 := h.le hi
  have h2 := h.big
  exact ⟨h.two i hi, by omega⟩
theorem Bs.Ok.at_two (h : b.Ok N) : ∀ i, i ≤ b.n → 2 * i ≤ b.at i
  | 0, _ => by omega
  | i + 1, hi => by
    have h1 := h.at_two i (by omega)
    have h2 := h.two i (by omega)
    show 2 * (i + 1) ≤ b.at i + b.sz i
    omega
theorem Bs.Ok.count (h : b.Ok N) : 1 ≤ b.n ∧ b.n ≤ 256 := by
  have h1 := h.at_two b.n (Nat.le_refl _)
  have h2 := h.big
  rw [h.sum] at h1
  refine ⟨?_, by omega⟩
  rcases Nat.eq_zero_or_pos b.n with e | e
  · exfalso
    have h3 := h.sum
    rw [e] at h3
    have : N = 0 := h3.symm
    omega
  · exact e
theorem Bs.Ok.lt (h : b.Ok N) {i : Nat} (hi : i < b.n) : b.at i < N := by
  have := h.le hi
  have := h.two i hi
  omega
end
/-- blocks as elements -/
def blkF (b : Bs) : Nat → Nat → Value := fun i t => if t = 0 then .int .i64 (b.at i) else if t = 1 then .int .i64 (b.sz i) else .bool (b.us i)
/-- the words say so -/
def Enc (W : Nat → Int) (b : Bs) : Prop := ∀ i, i < b.n → W (b.at i) = (hdr (b.sz i) (b.us i) : Nat)
/-- a block's cells -/
def blkC (a s : Int) (u : Bool) : Array Value := #[.int .i64 a, .int .i64 s, .bool u]
theorem blk_row {w : World} {B n : Nat} {v : Value} {b : Bs} (h : RowSl w B v 3 n (blkF b)) (h0 : 0 < n) : ∃ g off cap, v = .slice (some ⟨g, off, none⟩) n cap ∧ n ≤ cap ∧ cap ≤ 9223372036854775807 ∧ B ≤ g ∧ g < w.heap.size ∧
    (∀ i, i < n → rowAt (obj w g) (off + i * 3) 3 = some #[.int .i64 (b.at i), .int .i64 (b.sz i), .bool (b.us i)]) ∧ (∀ i, i < n → cellAt (obj w g) (off + i * 3) = some (.int .i64 (b.at i)) ∧ cellAt (obj w g) (off + i * 3 + 1) = some (.int .i64 (b.sz i)) ∧ cellAt (obj w g) (off + i * 3 + 2) = some (.bool (b.us i))) := by
  obtain ⟨g, off, cap, e, h1, h2, h3, h4, hob, h5⟩ := h.cells h0
  refine ⟨g, off, cap, e, h1, h2, h3, h4, fun i hi => ?_, fun i hi => ⟨h5 i hi 0 (by decide), h5 i hi 1 (by decide), h5 i hi 2 (by decide)⟩⟩
  refine rowAt_of rfl (by decide) (fun t ht => ?_) hob
  rw [h5 i hi t ht]
  have : t = 0 ∨ t = 1 ∨ t = 2 := by omega
  rcases this with rfl | rfl | rfl <;> rfl

set_option maxRecDepth 100000 in
set_option maxHeartbeats 6400000 in
theorem cmay_any {w : World} {B L : Nat} {v : Value} {b : Bs} (h : RowSl w B v 3 b.n (blkF b)) (hb : b.Ok (L * 8)) : Calls Tryz.prog 48 #[v, .int .i64 (L * 8 : Nat)] w fun e w' => e = .returned (.bool true) ∧ Below w.heap.size w w' := by
  have hcn := hb.count
  have hbig := hb.big
  obtain ⟨g, off, cap, rfl, _, _, _, hg, hrow, _⟩ := blk_row h (by omega)
  have K0 := Lib.hid (maywords_any L (by omega) w)
  have HROW := Lib.hid hrow
  have HB := Lib.hid hb
  have HC := Lib.hid hcn
  have HBIG := Lib.hid hbig
  have HG := Lib.hid hg
  have KB := Lib.hid (fun i (hi : i < b.n) w => bmay_any (b.sz i) (hb.size hi) w)
  obtain ⟨N, hN⟩ : ∃ N, L * 8 = N := ⟨_, rfl⟩
  have HN := Lib.hid hN
  rw [hN] at K0 HB HBIG ⊢
  clear h hb hcn hbig hrow hg hN
  go_enter Tryz.func48, Tryz.ntmps48
  go_wp2_with fail
  refine K0.out.mono ?_
  rintro _ _ ⟨rfl, rfl⟩
  clear K0
  go_wp2_with fail
  go_loopw [14, 5, 6] (fun i a f wr => ∃ j : Nat, j ≤ b.n ∧ i = .int .i64 j ∧ a = .int .i64 (b.at j) ∧ f = .bool (decide (0 < j) && !b.us (j - 1)) ∧ Below w.heap.size w wr) (fun i _ _ _ => b.n - (intOf i).toNat)
  case atStart => exact ⟨0, Nat.zero_le _, rfl, rfl, rfl, Below.refl _ _⟩
  case round =>
    obtain ⟨j, hj, rfl, rfl, rfl, hbr⟩ := hrel
    have HBR := Lib.hid hbr
    by_cases hlt : j < b.n
    · have hltz : (j : Int) < (b.n : Int) := by omega
      have j0 : (0 : Int) ≤ (j : Int) := Int.natCast_nonneg j
      have wj : IntKind.i64.wrap ((j : Int) + 1) = (j : Int) + 1 := by have := HC.out; rw [IntKind.wrap_i64]; omega
      have hr := HROW.out j hlt
      rw [← obj_below hbr HG.out] at hr
      have KBj := Lib.hid (KB.out j hlt)
      have hle := HB.out.le hlt
      have hbg := HBIG.out
      have hsz := HB.out.size hlt
      have hat1 : b.at (j + 1) = b.at j + b.sz j := rfl
      have halt : (decide (0 < j) && !b.us (j - 1)) = true → b.us j = true := by
        intro h
        simp only [Bool.and_eq_true, decide_eq_true_eq, Bool.not_eq_true'] at h
        rcases HB.out.alt (j - 1) (by omega) with h1 | h1
        · rw [h1] at h; simp at h
        · rw [show j - 1 + 1 = j by omega] at h1; exact h1
      obtain ⟨u, hu⟩ : ∃ u, b.us j = u := ⟨_, rfl⟩
      obtain ⟨s, hs⟩ : ∃ s, b.sz j = s := ⟨_, rfl⟩
      obtain ⟨a, ha⟩ : ∃ a, b.at j = a := ⟨_, rfl⟩
      obtain ⟨f, hf⟩ : ∃ f, (decide (0 < j) && !b.us (j - 1)) = f := ⟨_, rfl⟩
      rw [hu] at hr halt
      rw [hs] at hr hle hsz hat1 KBj
      rw [ha] at hr hle hat1
      rw [hf] at halt
      rw [ha, hf]
      have d1 : ¬ (s : Int) > (N : Int) - (a : Int) := by omega
      have w1 : IntKind.i64.wrap ((N : Int) - (a : Int)) = (N : Int) - (a : Int) := by rw [IntKind.wrap_i64]; omega
      obtain ⟨a2, ha2⟩ : ∃ a2, a + s = a2 := ⟨_, rfl⟩
      have w2 : IntKind.i64.wrap ((a : Int) + (s : Int)) = (a2 : Int) := by rw [IntKind.wrap_i64]; omega
      have HX := Lib.hid (And.intro hlt (And.intro hu (And.intro (hat1.trans ha2) (show (decide (0 < j + 1) && !b.us (j + 1 - 1)) = !u from by rw [Nat.add_sub_cancel, hu]; simp))))
      clear hbr hj hlt hle hbg hsz hat1 hu hs ha hf ha2
      cases f
      · clear halt
        go_wp2_with fail
        refine (KBj.out _).mono ?_
        rintro _ _ ⟨rfl, rfl⟩
        go_wp2_with fail
        exact ⟨⟨j + 1, HX.out.1, by simp, by rw [HX.out.2.2.1], by simp [HX.out.2.1], HBR.out.alloc HBR.out.size _⟩, by have := HX.out.1; simp only [intOf]; omega⟩
      · have hu := halt rfl
        subst hu
        clear halt
        go_wp2_with fail
        refine (KBj.out _).mono ?_
        rintro _ _ ⟨rfl, rfl⟩
        go_wp2_with fail
        exact ⟨⟨j + 1, HX.out.1, by simp, by rw [HX.out.2.2.1], by simp [HX.out.2.1], HBR.out.alloc HBR.out.size _⟩, by have := HX.out.1; simp only [intOf]; omega⟩
    · have e : j = b.n := by omega
      subst e
      have hltz : ¬ (b.n : Int) < (b.n : Int) := by omega
      rw [HB.out.sum]
      clear hj hlt hbr
      go_wp2
      go_ret
      exact ⟨rfl, HBR.out⟩

theorem info45 : (Tryz.prog.info? 45).map (fun i => (i.zero, i.size, i.bytes)) = some (some (.agg #[.int .i64 0, .int .i64 0, .bool false]), 3, 24) := by kernel_rfl
theorem blk_news (b : Bs) (j : Nat) : (List.range 3).map (blkF b j) = [.int .i64 (b.at j), .int .i64 (b.sz j), .bool (b.us j)] := rfl
set_option maxRecDepth 100000 in
set_option maxHeartbeats 6400000 in
theorem blocks_any {w : World} {B L : Nat} {v : Value} {W : Nat → Int} {b : Bs} (h : SlOf w B v 1 (L * 8) (wordF W)) (hb : b.Ok (L * 8)) (he : Enc W b) :
    Calls Tryz.prog 20 #[v] w fun e w' => ∃ v', e = .returned (.tuple #[v', .bool true]) ∧ RowSl w' w.heap.size v' 3 b.n (blkF b) ∧ Below w.heap.size w w' := by
  obtain ⟨i0, hi0, hz0, hz1, hz2⟩ := info_parts' info45
  have hcn := hb.count
  have hbig := hb.big
  obtain ⟨g, off, cap, rfl, _, _, _, hcell⟩ := h.cells (by omega)
  have HCELL := Lib.hid hcell
  have HB := Lib.hid hb
  have HC := Lib.hid hcn
  have HBIG := Lib.hid hbig
  have HE := Lib.hid he
  obtain ⟨N, hN⟩ : ∃ N, L * 8 = N := ⟨_, rfl⟩
  have HN := Lib.hid hN
  rw [hN] at HB HBIG HCELL ⊢
  clear h hb he hcn hbig hcell hN
  go_enter Tryz.func20, Tryz.ntmps20
  go_wp2_with fail
  go_loopw [5, 4] (fun a s wr => ∃ j : Nat, j ≤ b.n ∧ a = .int .i64 (b.at j) ∧ wr.ownsRow w.heap.size 45 3 s j (flatF 3 (blkF b) j) ∧ (j = 0 → s = .slice none 0 0) ∧ Below w.heap.size w wr) (fun a _ _ => N - (intOf a).toNat)
  case atStart => exact ⟨0, Nat.zero_le _, rfl, World.ownsRow_nil _ _ _ _, fun _ => rfl, Below.refl _ _⟩
  case round =>
    obtain ⟨j, hj, rfl, ho, hz, hbr⟩ := hrel
    have HO := Lib.hid ho
    have HZ := Lib.hid hz
    have HBR := Lib.hid hbr
    by_cases hlt : j < b.n
    · have hat := HB.out.lt hlt
      have hsz := HB.out.size hlt
      have hle := HB.out.le hlt
      have hbg := HBIG.out
      have hc1 : cellAt (obj wr g) (off + b.at j) = some (.int .u64 (hdr (b.sz j) (b.us j) : Nat)) := by
        have h1 := HCELL.out (b.at j) hat 0 (by decide)
        rw [Nat.mul_one, Nat.add_zero] at h1
        have h2 : cellAt (obj w g) (off + b.at j) = some (.int .u64 (hdr (b.sz j) (b.us j) : Nat)) := by rw [h1]; show some (Value.int .u64 (W (b.at j))) = _; rw [HE.out j hlt]
        exact (below_kept hbr).cell h2 (by simp)
      have KP := Lib.hid (fun w => parse_any (b.sz j) (b.us j) hsz w)
      have hat1 : b.at (j + 1) = b.at j + b.sz j := rfl
      have hnew := blk_news b j
      obtain ⟨u, hu⟩ : ∃ u, b.us j = u := ⟨_, rfl⟩
      obtain ⟨s, hs⟩ : ∃ s, b.sz j = s := ⟨_, rfl⟩
      obtain ⟨a, ha⟩ : ∃ a, b.at j = a := ⟨_, rfl⟩
      rw [hu, hs] at KP
      rw [ha, hs, hu] at hnew hc1
      rw [ha, hs] at hat1
      rw [ha] at hat
      rw [hs] at hsz
      rw [ha, hs] at hle
      rw [ha]
      obtain ⟨a2, ha2⟩ : ∃ a2, a + s = a2 := ⟨_, rfl⟩
      have w2 : IntKind.i64.wrap ((a : Int) + (s : Int)) = (a2 : Int) := by rw [IntKind.wrap_i64]; omega
      have d1 : (a : Int) < (N : Int) := by omega
      have d0 : (0 : Int) ≤ (a : Int) := Int.natCast_nonneg a
      generalize hhd : hdr s u = hd at hc1 KP
      have HX := Lib.hid (And.intro hlt (And.intro (hat1.trans ha2) (And.intro hnew (show a < N ∧ a < a2 ∧ a2 ≤ N by omega))))
      clear hj hlt ho hz hbr hle hbg hsz hat1 hu hs ha ha2 hhd hnew hat
      go_wp2_with fail
      refine (KP.out _).mono ?_
      rintro _ _ ⟨rfl, rfl⟩
      go_wp2_with (at_builtin; refine wpList_append_lies _ rfl (.tmp 24) (.tmp 29) 42 rfl w.heap.size 45 i0 _ 3 24 Tryz.underlying42 hi0 hz0 hz1 hz2 rfl (by decide) _ j _ rfl (HO.out.alloc _) ⟨wr.heap.size, 0, none⟩ 1 1 [.int .i64 a, .int .i64 s, .bool u] rfl rfl (news_new _ _ _) (by simp [Value.oneCell']) (by decide) (by have := HX.out.1; have := HC.out; unfold maxLen; omega) (by have := HX.out.1; have := HC.out; omega) (by have := HBR.out.size; simp; omega) (wr.heap.size + 1) (by simp) ?_; intro gA capA wA hownA hgrowA hatA hltA)
      exact ⟨⟨j + 1, HX.out.1, by rw [HX.out.2.1], by rw [flatF_succ, HX.out.2.2.1]; exact hownA, fun e => (by omega), below_own HBR.out HBR.out.size HO.out hgrowA⟩, by have := HX.out.2.2.2; simp only [intOf]; omega⟩
    · have e : j = b.n := by omega
      subst e
      have hltz : ¬ (N : Int) < (N : Int) := by omega
      rw [HB.out.sum]
      have hr := own_row HO.out HZ.out
      have KM := cmay_any (L := L) hr (by rw [HN.out]; exact HB.out)
      rw [HN.out] at KM
      have KM := Lib.hid KM
      have HR := Lib.hid hr
      clear hj hlt ho hz hbr hr
      go_wp2_with fail
      refine KM.out.mono ?_
      rintro _ w2 ⟨rfl, hb2⟩
      have HR2 := Lib.hid (HR.out.below hb2)
      have HB2 := Lib.hid (HBR.out.trans (hb2.mono HBR.out.size))
      clear hb2 KM
      go_wp2
      go_ret2
      exact ⟨_, rfl, HR2.out, HB2.out⟩
end Go.Proofs.YtphmfaddgpjndaaGreat

/- chain.First; contracts of package fit: Need, Takes, Fits. -/
namespace Go.Proofs.YtphmfaddgpjndaaGreat
open Go.ChangeShapes Go.WideShapes Go.RowKit

theorem flat_zero (n : Nat) : (madeCells #[Value.int .u64 0] n).toList = flatF 1 (wordF fun _ => 0) n := by
  rw [toList_madeCells_one]
  induction n with
  | zero => rfl
  | succ n ih => rw [List.replicate_succ', ih, flatF_succ]; rfl
/-- words of one free block -/
def firstW (N : Nat) : Nat → Int := fun i => if i = 0 then (hdr N false : Nat) else 0
theorem flat_first (N : Nat) (h : 0 < N) : (flatF 1 (wordF fun _ => 0) N).set 0 (.int .u64 (hdr N false : Nat)) = flatF 1 (wordF (firstW N)) N := by
  apply List.ext_getElem?
  intro t
  by_cases ht : t < N
  · have h1 := flatF_get 1 (wordF (firstW N)) N t 0 ht (by decide)
    have h2 := flatF_get 1 (wordF fun _ => 0) N t 0 ht (by decide)
    rw [Nat.mul_one, Nat.add_zero] at h1 h2
    rw [h1, List.getElem?_set]
    by_cases e : 0 = t
    · subst e; rw [if_pos rfl, if_pos (by rw [flatF_len]; omega)]; rfl
    · rw [if_neg e, h2]; unfold wordF firstW; rw [if_neg (Ne.symm e)]
  · rw [List.getElem?_eq_none (by rw [List.length_set, flatF_len]; omega), List.getElem?_eq_none (by rw [flatF_len]; omega)]
set_option maxRecDepth 100000 in
set_option maxHeartbeats 1600000 in
theorem first_any (w : World) (L : Nat) (h : 1 ≤ L ∧ L ≤ 64) : Calls Tryz.prog 55 #[.int .i64 (L * 8 : Nat)] w fun e w' => ∃ v, e = .returned v ∧ RowSl w' w.heap.size v 1 (L * 8) (wordF (firstW (L * 8))) ∧ Below w.heap.size w w' := by
  obtain ⟨i0, hi0, hz0, hz1, hz2⟩ := info_parts' info25
  have K0 := Lib.hid (maywords_any L h w)
  obtain ⟨N, hN⟩ : ∃ N, L * 8 = N := ⟨_, rfl⟩
  rw [hN] at K0 ⊢
  obtain ⟨w1, hmk, ho, hg⟩ := run_make_full (P := Tryz.prog) w w.heap.size 54 25 i0 _ 1 Tryz.underlying54 hi0 hz0 hz1 .i64 .i64 N (by rw [hz2]; omega) (by unfold maxLen; omega) (Nat.le_refl _)
  have hb1 : Below w.heap.size w w1 := (Below.refl _ _).grown hg (Nat.le_refl _) (fun _ h => by cases h)
  rw [Nat.mul_one, show (Value.int .u64 0).cells = #[Value.int .u64 0] from rfl, flat_zero] at ho
  have KW := Lib.hid (fun w => bword_any N false (by omega) w)
  have hc0 := (own_row ho (fun e => by omega)).cells (by omega)
  obtain ⟨g, off, cap, e, _, _, _, _, _, hc⟩ := hc0
  obtain ⟨⟨rfl, rfl⟩, rfl⟩ : (w.heap.size = g ∧ 0 = off) ∧ N = cap := by simpa using e
  have hc1 := hc 0 (by omega) 0 (by decide)
  have hi1 := ho.frozenAt 0
  rw [frozen?_heap] at hi1
  have hst := (World.ownsRow.stored ho 0 (.int .u64 (hdr N false : Nat))).1
  rw [flat_first N (by omega)] at hst
  have HO := Lib.hid (own_row hst (fun e => by omega))
  have HB1 := Lib.hid hb1
  have d1 : (0 : Int) < (N : Int) := by omega
  have d2 : 0 < N := by omega
  generalize hh : hdr N false = hd at KW HO
  have HH := Lib.hid hh
  clear h hN ho hg hb1 hst hc e hh
  simp only [Nat.mul_one, Nat.add_zero, Nat.zero_add] at hc1
  go_enter Tryz.func55, Tryz.ntmps55
  go_wp2_with fail
  refine K0.out.mono ?_
  rintro _ _ ⟨rfl, rfl⟩
  go_wp2_with fail
  refine (KW.out _).mono ?_
  rintro _ _ ⟨rfl, rfl⟩
  go_wp2
  go_ret
  exact ⟨_, rfl, HO.out, HB1.out.setCell (Nat.le_refl _) _⟩

/-! ### package fit -/
/-- how many words so many bytes need -/
def needN (n : Int) : Nat := if 1 ≤ n ∧ n ≤ 448 then (n.toNat + 7) / 8 + 1 else 0
set_option maxHeartbeats 800000 in
theorem need_any (n : Int) (w : World) : Calls Tryz.prog 14 #[.int .i64 n] w fun e w' => e = .returned (.int .i64 (needN n)) ∧ w = w' := by
  unfold needN
  by_cases h1 : n < 1
  · rw [if_neg (by omega)]
    go_enter Tryz.func14, Tryz.ntmps14
    go_wp2
    go_ret
    exact ⟨rfl, rfl⟩
  · by_cases h2 : n > 448
    · rw [if_neg (by omega)]
      go_enter Tryz.func14, Tryz.ntmps14
      go_wp2
      go_ret
      exact ⟨rfl, rfl⟩
    · rw [if_pos (by omega)]
      obtain ⟨m, rfl⟩ : ∃ m : Nat, n = m := ⟨n.toNat, by omega⟩
      rw [Int.toNat_natCast]
      obtain ⟨a, ha⟩ : ∃ a, m + 7 = a := ⟨_, rfl⟩
      obtain ⟨b, hb⟩ : ∃ b, a / 8 = b := ⟨_, rfl⟩
      have w1 : IntKind.i64.wrap ((m : Int) + 7) = (a : Int) := by rw [IntKind.wrap_i64]; omega
      have e1 : (a : Int).tdiv 8 = (b : Int) := by have := tdiv_nat a 8; rw [hb] at this; exact this
      have e2 : (a : Int) / 8 = (b : Int) := by omega
      have w2 : IntKind.i64.wrap (b : Int) = (b : Int) := by rw [IntKind.wrap_i64]; omega
      have w3 : IntKind.i64.wrap ((b : Int) + 1) = ((b + 1 : Nat) : Int) := by rw [IntKind.wrap_i64]; omega
      rw [ha, hb]
      generalize hB : b + 1 = B at w3
      clear ha hb hB
      go_enter Tryz.func14, Tryz.ntmps14
      go_wp2
      go_ret
      exact ⟨rfl, rfl⟩
/-- what is taken of a free block -/
def takesN (size need : Nat) : Nat := if need + 2 ≤ size then need else size
set_option maxHeartbeats 800000 in
theorem takes_any (s n : Nat) (h : 2 ≤ n ∧ n ≤ s ∧ s ≤ 512) (w : World) : Calls Tryz.prog 167 #[.int .i64 s, .int .i64 n] w fun e w' => e = .returned (.int .i64 (takesN s n)) ∧ w = w' := by
  have d1 : ¬ (n : Int) < 2 := by omega
  have d2 : ¬ (n : Int) > (s : Int) := by omega
  have w1 : IntKind.i64.wrap ((s : Int) - (n : Int)) = (s : Int) - (n : Int) := by rw [IntKind.wrap_i64]; omega
  unfold takesN
  by_cases h2 : n + 2 ≤ s
  · have d3 : ¬ (s : Int) - (n : Int) < 2 := by omega
    rw [if_pos h2]
    clear h h2
    go_enter Tryz.func167, Tryz.ntmps167
    go_wp2
    go_ret
    exact ⟨rfl, rfl⟩
  · have d3 : (s : Int) - (n : Int) < 2 := by omega
    rw [if_neg h2]
    clear h h2
    go_enter Tryz.func167, Tryz.ntmps167
    go_wp2
    go_ret
    exact ⟨rfl, rfl⟩
end Go.Proofs.YtphmfaddgpjndaaGreat

/- fit.Fits. (Printed by wip/d/genY4.py.) -/
namespace Go.Proofs.YtphmfaddgpjndaaGreat
open Go.ChangeShapes Go.WideShapes Go.RowKit

/-- whole numbers as elements -/
def natF (f : Nat → Nat) : Nat → Nat → Value := intF fun t => (f t : Int)
/-- a free block that is large enough -/
def fits (b : Bs) (need j : Nat) : Prop := b.us j = false ∧ need ≤ b.sz j
/-- the smallest ones of the first i -/
structure FitsI (b : Bs) (need i m : Nat) (f : Nat → Nat) : Prop where
  good : ∀ t, t < m → f t < i ∧ fits b need (f t) ∧ ∀ j, j < i → fits b need j → b.sz (f t) ≤ b.sz j
  none : m = 0 → ∀ j, j < i → ¬ fits b need j
  le : m ≤ i
section
variable {b : Bs} {need i m : Nat} {f : Nat → Nat}
theorem FitsI.skip (h : FitsI b need i m f) (hn : ¬ fits b need i) : FitsI b need (i + 1) m f := by
  refine ⟨fun t ht => ?_, fun h0 j hj => ?_, Nat.le_succ_of_le h.le⟩
  · obtain ⟨h1, h2, h3⟩ := h.good t ht
    refine ⟨by omega, h2, fun j hj hf => ?_⟩
    by_cases e : j = i
    · subst e; exact absurd hf hn
    · exact h3 j (by omega) hf
  · by_cases e : j = i
    · subst e; exact hn
    · exact h.none h0 j (by omega)
theorem FitsI.larger (h : FitsI b need i m f) (hm : 0 < m) (hl : b.sz (f 0) < b.sz i) : FitsI b need (i + 1) m f := by
  refine ⟨fun t ht => ?_, fun h0 => by omega, Nat.le_succ_of_le h.le⟩
  obtain ⟨h1, h2, h3⟩ := h.good t ht
  refine ⟨by omega, h2, fun j hj hf => ?_⟩
  by_cases e : j = i
  · subst e
    have := h3 (f 0) (h.good 0 hm).1 (h.good 0 hm).2.1
    omega
  · exact h3 j (by omega) hf
theorem FitsI.one (hf : fits b need i) (h : ∀ j, j < i → fits b need j → b.sz i ≤ b.sz j) : FitsI b need (i + 1) 1 (updF f 0 i) := by
  refine ⟨fun t ht => ?_, fun h0 => by omega, by omega⟩
  obtain rfl : t = 0 := by omega
  rw [updF_same]
  refine ⟨by omega, hf, fun j hj hfj => ?_⟩
  by_cases e : j = i
  · subst e; exact Nat.le_refl _
  · exact h j (by omega) hfj
theorem FitsI.same (h : FitsI b need i m f) (hm : 0 < m) (hf : fits b need i) (hl : b.sz i = b.sz (f 0)) : FitsI b need (i + 1) (m + 1) (updF f m i) := by
  have low : ∀ j, j < i → fits b need j → b.sz i ≤ b.sz j := fun j hj hfj => by rw [hl]; exact (h.good 0 hm).2.2 j hj hfj
  refine ⟨fun t ht => ?_, fun h0 => by omega, by have := h.le; omega⟩
  by_cases e : t = m
  · subst e
    rw [updF_same]
    refine ⟨by omega, hf, fun j hj hfj => ?_⟩
    by_cases e2 : j = i
    · subst e2; exact Nat.le_refl _
    · exact low j (by omega) hfj
  · rw [updF_ne _ _ _ e]
    obtain ⟨h1, h2, h3⟩ := h.good t (by omega)
    refine ⟨by omega, h2, fun j hj hfj => ?_⟩
    by_cases e2 : j = i
    · subst e2; rw [hl]; exact h3 (f 0) (h.good 0 hm).1 (h.good 0 hm).2.1
    · exact h3 j (by omega) hfj
theorem flat_app (f : Nat → Nat) (m i : Nat) : flatF 1 (natF f) m ++ [.int .i64 (i : Int)] = flatF 1 (natF (updF f m i)) (m + 1) := by
  rw [flatF_succ]
  have e1 : flatF 1 (natF f) m = flatF 1 (natF (updF f m i)) m := flatF_congr fun j hj t _ => by show Value.int .i64 ((f j : Nat) : Int) = Value.int .i64 ((updF f m i j : Nat) : Int); rw [updF_ne _ _ _ (by omega)]
  rw [e1]
  show _ = _ ++ [Value.int .i64 ((updF f m i m : Nat) : Int)]
  rw [updF_same]
theorem flat_one (f : Nat → Nat) (i : Nat) : [] ++ [Value.int .i64 (i : Int)] = flatF 1 (natF (updF f 0 i)) (0 + 1) := by
  have := flat_app f 0 i
  exact this

set_option maxRecDepth 100000 in
set_option maxHeartbeats 12800000 in
theorem fits_any {w : World} {B N : Nat} {v : Value} (h : RowSl w B v 3 b.n (blkF b)) (hb : b.Ok N) (hn : 2 ≤ need) (hn2 : need ≤ 1000) :
    Calls Tryz.prog 154 #[v, .int .i64 need] w fun e w' => ∃ v' m f, e = .returned v' ∧ RowSl w' w.heap.size v' 1 m (natF f) ∧ FitsI b need b.n m f ∧ Below w.heap.size w w' := by
  obtain ⟨i0, hi0, hz0, hz1, hz2⟩ := info_parts' info3
  have hcn := hb.count
  obtain ⟨g, off, cap, rfl, _, _, _, hg, hrow, hcells⟩ := blk_row h (by omega)
  have HROW := Lib.hid hrow
  have HCELL := Lib.hid hcells
  have HB := Lib.hid hb
  have HC := Lib.hid hcn
  have HG := Lib.hid hg
  have HN := Lib.hid hn
  have HN2 := Lib.hid hn2
  have d1 : ¬ (need : Int) < 2 := by omega
  clear h hb hcn hrow hcells hg hn hn2
  go_enter Tryz.func154, Tryz.ntmps154
  go_wp2_with fail
  go_loopw [10, 5] (fun ix s wr => ∃ (i m : Nat) (f : Nat → Nat), i ≤ b.n ∧ ix = .int .i64 i ∧ wr.ownsRow w.heap.size 3 1 s m (flatF 1 (natF f) m) ∧ (m = 0 → s = .slice none 0 0) ∧ FitsI b need i m f ∧ Below w.heap.size w wr) (fun ix _ _ => b.n - (intOf ix).toNat)
  case atStart => exact ⟨0, 0, fun _ => 0, Nat.zero_le _, rfl, World.ownsRow_nil _ _ _ _, fun _ => rfl, ⟨fun t h => by omega, fun _ j h => by omega, Nat.le_refl _⟩, Below.refl _ _⟩
  case round =>
    obtain ⟨i, m, f, hi, rfl, ho, hz, hf, hbr⟩ := hrel
    have HF := Lib.hid hf
    have HO := Lib.hid ho
    have HZ := Lib.hid hz
    have HBR := Lib.hid hbr
    by_cases hlt : i < b.n
    · have hltz : (i : Int) < (b.n : Int) := by omega
      have i0' : (0 : Int) ≤ (i : Int) := Int.natCast_nonneg i
      have wi : IntKind.i64.wrap ((i : Int) + 1) = (i : Int) + 1 := by have := HC.out; rw [IntKind.wrap_i64]; omega
      have hr := HROW.out i hlt
      rw [← obj_below hbr HG.out] at hr
      have HLT := Lib.hid hlt
      have HM := Lib.hid (show m ≤ 256 ∧ i < 256 by have := hf.le; have := HC.out; omega)
      obtain ⟨a, ha⟩ : ∃ a, b.at i = a := ⟨_, rfl⟩
      obtain ⟨s, hs⟩ : ∃ s, b.sz i = s := ⟨_, rfl⟩
      obtain ⟨u, hu⟩ : ∃ u, b.us i = u := ⟨_, rfl⟩
      rw [ha, hs, hu] at hr
      have HS := Lib.hid hs
      have HU := Lib.hid hu
      cases u
      · by_cases hsn : s < need
        · have dz : (s : Int) < (need : Int) := by omega
          have hnf : ¬ fits b need i := fun h => by unfold fits at h; omega
          have HNF := Lib.hid hnf
          clear hi hlt ho hz hf hbr ha hs hu hnf hsn
          go_wp2_with fail
          exact ⟨⟨i + 1, m, f, HLT.out, by simp, HO.out.alloc _, HZ.out, HF.out.skip HNF.out, HBR.out.alloc HBR.out.size _⟩, by have := HLT.out; simp only [intOf]; omega⟩
        · have dz : ¬ (s : Int) < (need : Int) := by omega
          have HFI : Hid (fits b need i) := Lib.hid ⟨hu, by omega⟩
          by_cases hm0 : m = 0
          · subst hm0
            have hv := hz rfl
            subst hv
            clear hi hlt ho hz hf hbr ha hs hu hsn
            have HSZ : Hid (w.heap.size ≤ (wr.alloc (.cells #[.int .i64 a, .int .i64 s, .bool false] 45)).heap.size) := Lib.hid (by have := HBR.out.size; simp; omega)
            have HBA : Hid (Below w.heap.size w (wr.alloc (.cells #[.int .i64 a, .int .i64 s, .bool false] 45))) := Lib.hid (HBR.out.alloc HBR.out.size _)
            have hq := newA wr (.cells #[.int .i64 a, .int .i64 s, .bool false] 45)
            have hql := lt_of_obj hq
            go_wp2_with fail
            generalize wr.alloc (.cells #[.int .i64 a, .int .i64 s, .bool false] 45) = w2 at HSZ HBA hq hql ⊢
            go_quiet (fail)
            have HB3 : Hid (Below w.heap.size w (w2.drewN nq)) := Lib.hid ⟨HBA.out.os, HBA.out.tape, HBA.out.output, HBA.out.size, HBA.out.block⟩
            have hq3 : obj (w2.drewN nq) wr.heap.size = some (.cells #[.int .i64 a, .int .i64 s, .bool false] 45 (0, 0)) := hq
            have hql3 : wr.heap.size < (w2.drewN nq).heap.size := hql
            generalize w2.drewN nq = w3 at HB3 hq3 hql3 ⊢
            clear hq hql HSZ HBA
            go_wp2_with fail
            go_quiet (fail)
            have HB4 : Hid (Below w.heap.size w (w3.drewN nq)) := Lib.hid ⟨HB3.out.os, HB3.out.tape, HB3.out.output, HB3.out.size, HB3.out.block⟩
            generalize w3.drewN nq = w4 at HB4 ⊢
            clear hq3 hql3 HB3
            go_wp2_with (at_builtin; refine wpList_append_lies _ rfl (.tmp 57) (.tmp 59) 53 rfl w.heap.size 3 i0 _ 1 8 Tryz.underlying53 hi0 hz0 hz1 hz2 rfl (by decide) _ 0 [] rfl (World.ownsRow_nil _ _ _ _) ⟨w4.heap.size, 0, none⟩ 1 1 [.int .i64 i] rfl rfl (news_new _ _ _) (by simp [Value.oneCell']) (by decide) (by unfold maxLen; omega) (by omega) (by have := HB4.out.size; simp; omega) (w4.heap.size + 1) (by simp) ?_; intro gA capA wA hownA hgrowA hatA hltA)
            exact ⟨⟨i + 1, 1, updF f 0 i, HLT.out, by simp, by rw [flat_one] at hownA; exact hownA, fun e => (by omega), FitsI.one HFI.out (fun j hj hfj => absurd hfj (HF.out.none rfl j hj)), below_own (size := 1) HB4.out HB4.out.size (World.ownsRow_nil _ _ 3 1) hgrowA⟩, by have := HLT.out; simp only [intOf]; omega⟩
          · have hmp : 0 < m := by omega
            have hgd := (hf.good 0 hmp).1
            have hro := own_row ho (fun e => absurd e hm0)
            obtain ⟨gs, offs, caps, es, n1, n2, n3, n4, _, hcs⟩ := hro.cells hmp
            subst es
            obtain ⟨z, hzz⟩ : ∃ z, f 0 = z := ⟨_, rfl⟩
            have hc0 : cellAt (obj wr gs) offs = some (.int .i64 (z : Int)) := by
              have := hcs 0 hmp 0 (by decide)
              rw [Nat.zero_mul] at this
              simp only [Nat.add_zero] at this
              rw [← hzz]; exact this
            have hzn : z < b.n := by rw [← hzz]; omega
            have hcz := (HCELL.out z hzn).2.1
            rw [← obj_below hbr HG.out] at hcz
            obtain ⟨sz0, hsz0⟩ : ∃ sz0, b.sz z = sz0 := ⟨_, rfl⟩
            rw [hsz0] at hcz
            have z0 : (0 : Int) ≤ (z : Int) := Int.natCast_nonneg z
            have z1 : (z : Int) < (b.n : Int) := by omega
            have m0 : (m : Int) > 0 := by omega
            have m1 : ¬ (m : Int) = 0 := by omega
            have m2 : (0 : Int) < (m : Int) := by omega
            have m3 : ((m : Int) == 0) = false := by simp; omega
            have HZZ : Hid (b.sz (f 0) = sz0) := Lib.hid (by rw [hzz]; exact hsz0)
            have HMP := Lib.hid hmp
            have HSZ : Hid (w.heap.size ≤ (wr.alloc (.cells #[.int .i64 a, .int .i64 s, .bool false] 45)).heap.size) := Lib.hid (by have := HBR.out.size; simp; omega)
            have HBA : Hid (Below w.heap.size w (wr.alloc (.cells #[.int .i64 a, .int .i64 s, .bool false] 45))) := Lib.hid (HBR.out.alloc HBR.out.size _)
            have hq := newA wr (.cells #[.int .i64 a, .int .i64 s, .bool false] 45)
            have hql := lt_of_obj hq
            have hc0A : cellAt (obj (wr.alloc (.cells #[.int .i64 a, .int .i64 s, .bool false] 45)) gs) offs = some (.int .i64 (z : Int)) := by rw [obj_alloc_past wr _ gs n4]; exact hc0
            have hczA : cellAt (obj (wr.alloc (.cells #[.int .i64 a, .int .i64 s, .bool false] 45)) g) (off + z * 3 + 1) = some (.int .i64 (sz0 : Int)) := by rw [obj_alloc_past wr _ g (by have := HG.out; have := HBR.out.size; omega)]; exact hcz
            have HOA : Hid ((wr.alloc (.cells #[.int .i64 a, .int .i64 s, .bool false] 45)).ownsRow w.heap.size 3 1 (.slice (some ⟨gs, offs, none⟩) m caps) m (flatF 1 (natF f) m)) := Lib.hid (ho.alloc _)
            clear hi hlt ho hz hf hbr ha hs hu hsn hro n1 n2 n3 n4 hcs hzz hzn hsz0 hgd hcz hc0
            go_wp2_with fail
            generalize wr.alloc (.cells #[.int .i64 a, .int .i64 s, .bool false] 45) = w2 at HSZ HBA hq hql hc0A hczA HOA ⊢
            rcases Nat.lt_trichotomy s sz0 with hcmp | hcmp | hcmp
            · have dc : (s : Int) < (sz0 : Int) := by omega
              have hcmp := Lib.hid hcmp
              go_quiet (fail)
              have HB3 : Hid (Below w.heap.size w (w2.drewN nq)) := Lib.hid ⟨HBA.out.os, HBA.out.tape, HBA.out.output, HBA.out.size, HBA.out.block⟩
              have hq3 : obj (w2.drewN nq) wr.heap.size = some (.cells #[.int .i64 a, .int .i64 s, .bool false] 45 (0, 0)) := hq
              have hql3 : wr.heap.size < (w2.drewN nq).heap.size := hql
              have hc03 : cellAt (obj (w2.drewN nq) gs) offs = some (.int .i64 (z : Int)) := hc0A
              have hcz3 : cellAt (obj (w2.drewN nq) g) (off + z * 3 + 1) = some (.int .i64 (sz0 : Int)) := hczA
              have HO3 : Hid ((w2.drewN nq).ownsRow w.heap.size 3 1 (.slice (some ⟨gs, offs, none⟩) m caps) m (flatF 1 (natF f) m)) := HOA
              generalize w2.drewN nq = w3 at HB3 hq3 hql3 hc03 hcz3 HO3 ⊢
              clear hq hql HSZ HBA hc0A hczA HOA
              go_wp2_with fail
              go_quiet (fail)
              have HB4 : Hid (Below w.heap.size w (w3.drewN nq)) := Lib.hid ⟨HB3.out.os, HB3.out.tape, HB3.out.output, HB3.out.size, HB3.out.block⟩
              have HO4 : Hid ((w3.drewN nq).ownsRow w.heap.size 3 1 (.slice (some ⟨gs, offs, none⟩) m caps) m (flatF 1 (natF f) m)) := HO3
              generalize w3.drewN nq = w4 at HB4 HO4 ⊢
              clear hq3 hql3 HB3 hc03 hcz3 HO3
              go_wp2_with (at_builtin; refine wpList_append_lies _ rfl (.tmp 57) (.tmp 59) 53 rfl w.heap.size 3 i0 _ 1 8 Tryz.underlying53 hi0 hz0 hz1 hz2 rfl (by decide) _ 0 [] rfl (World.ownsRow_nil _ _ _ _) ⟨w4.heap.size, 0, none⟩ 1 1 [.int .i64 i] rfl rfl (news_new _ _ _) (by simp [Value.oneCell']) (by decide) (by unfold maxLen; omega) (by omega) (by have := HB4.out.size; simp; omega) (w4.heap.size + 1) (by simp) ?_; intro gA capA wA hownA hgrowA hatA hltA)
              refine ⟨⟨i + 1, 1, updF f 0 i, HLT.out, by simp, by rw [flat_one] at hownA; exact hownA, fun e => (by omega), FitsI.one HFI.out (fun j hj hfj => ?_), below_own (size := 1) HB4.out HB4.out.size (World.ownsRow_nil _ _ 3 1) hgrowA⟩, by have := HLT.out; simp only [intOf]; omega⟩
              have h1 := (HF.out.good 0 HMP.out).2.2 j hj hfj
              have h2 := HZZ.out
              have h3 := HS.out
              have h4 := hcmp.out
              omega
            · have dc : ¬ (s : Int) < (sz0 : Int) := by omega
              have dc2 : ((s : Int) == (sz0 : Int)) = true := by simp; omega
              have hcmp := Lib.hid hcmp
              go_quiet (fail)
              have HB3 : Hid (Below w.heap.size w (w2.drewN nq)) := Lib.hid ⟨HBA.out.os, HBA.out.tape, HBA.out.output, HBA.out.size, HBA.out.block⟩
              have hq3 : obj (w2.drewN nq) wr.heap.size = some (.cells #[.int .i64 a, .int .i64 s, .bool false] 45 (0, 0)) := hq
              have hql3 : wr.heap.size < (w2.drewN nq).heap.size := hql
              have hc03 : cellAt (obj (w2.drewN nq) gs) offs = some (.int .i64 (z : Int)) := hc0A
              have hcz3 : cellAt (obj (w2.drewN nq) g) (off + z * 3 + 1) = some (.int .i64 (sz0 : Int)) := hczA
              have HO3 : Hid ((w2.drewN nq).ownsRow w.heap.size 3 1 (.slice (some ⟨gs, offs, none⟩) m caps) m (flatF 1 (natF f) m)) := HOA
              generalize w2.drewN nq = w3 at HB3 hq3 hql3 hc03 hcz3 HO3 ⊢
              clear hq hql HSZ HBA hc0A hczA HOA
              go_wp2_with fail
              go_quiet (fail)
              have HB4 : Hid (Below w.heap.size w (w3.drewN nq)) := Lib.hid ⟨HB3.out.os, HB3.out.tape, HB3.out.output, HB3.out.size, HB3.out.block⟩
              have HO4 : Hid ((w3.drewN nq).ownsRow w.heap.size 3 1 (.slice (some ⟨gs, offs, none⟩) m caps) m (flatF 1 (natF f) m)) := HO3
              generalize w3.drewN nq = w4 at HB4 HO4 ⊢
              clear hq3 hql3 HB3 hc03 hcz3 HO3
              go_wp2_with (at_builtin; refine wpList_append_lies _ rfl (.tmp 57) (.tmp 59) 53 rfl w.heap.size 3 i0 _ 1 8 Tryz.underlying53 hi0 hz0 hz1 hz2 rfl (by decide) _ m _ rfl (HO4.out.alloc _) ⟨w4.heap.size, 0, none⟩ 1 1 [.int .i64 i] rfl rfl (news_new _ _ _) (by simp [Value.oneCell']) (by decide) (by have := HM.out; unfold maxLen; omega) (by have := HM.out; omega) (by have := HB4.out.size; simp; omega) (w4.heap.size + 1) (by simp) ?_; intro gA capA wA hownA hgrowA hatA hltA)
              exact ⟨⟨i + 1, m + 1, updF f m i, HLT.out, by simp, by rw [flat_app] at hownA; exact hownA, fun e => (by omega), HF.out.same HMP.out HFI.out (by rw [HZZ.out, HS.out]; exact hcmp.out), below_own HB4.out HB4.out.size HO4.out hgrowA⟩, by have := HLT.out; simp only [intOf]; omega⟩
            · have dc : ¬ (s : Int) < (sz0 : Int) := by omega
              have dc2 : ¬ (s : Int) = (sz0 : Int) := by omega
              have dn : ((s : Int) == (sz0 : Int)) = false := by simp; omega
              have hcmp := Lib.hid hcmp
              go_quiet (fail)
              have HB3 : Hid (Below w.heap.size w (w2.drewN nq)) := Lib.hid ⟨HBA.out.os, HBA.out.tape, HBA.out.output, HBA.out.size, HBA.out.block⟩
              have hq3 : obj (w2.drewN nq) wr.heap.size = some (.cells #[.int .i64 a, .int .i64 s, .bool false] 45 (0, 0)) := hq
              have hql3 : wr.heap.size < (w2.drewN nq).heap.size := hql
              have hc03 : cellAt (obj (w2.drewN nq) gs) offs = some (.int .i64 (z : Int)) := hc0A
              have hcz3 : cellAt (obj (w2.drewN nq) g) (off + z * 3 + 1) = some (.int .i64 (sz0 : Int)) := hczA
              have HO3 : Hid ((w2.drewN nq).ownsRow w.heap.size 3 1 (.slice (some ⟨gs, offs, none⟩) m caps) m (flatF 1 (natF f) m)) := HOA
              generalize w2.drewN nq = w3 at HB3 hq3 hql3 hc03 hcz3 HO3 ⊢
              clear hq hql HSZ HBA hc0A hczA HOA
              go_wp2_with fail
              go_quiet (fail)
              have HB4 : Hid (Below w.heap.size w (w3.drewN nq)) := Lib.hid ⟨HB3.out.os, HB3.out.tape, HB3.out.output, HB3.out.size, HB3.out.block⟩
              have HO4 : Hid ((w3.drewN nq).ownsRow w.heap.size 3 1 (.slice (some ⟨gs, offs, none⟩) m caps) m (flatF 1 (natF f) m)) := HO3
              generalize w3.drewN nq = w4 at HB4 HO4 ⊢
              clear hq3 hql3 HB3 hc03 hcz3 HO3
              go_wp2_with fail
              exact ⟨⟨i + 1, m, f, HLT.out, by simp, HO4.out, fun e => absurd e (by have := HMP.out; omega), HF.out.larger HMP.out (by rw [HZZ.out, HS.out]; exact hcmp.out), HB4.out⟩, by have := HLT.out; simp only [intOf]; omega⟩
      · have hnf : ¬ fits b need i := fun h => by unfold fits at h; rw [hu] at h; simp at h
        have HNF := Lib.hid hnf
        clear hi hlt ho hz hf hbr ha hs hu hnf
        go_wp2_with fail
        exact ⟨⟨i + 1, m, f, HLT.out, by simp, HO.out.alloc _, HZ.out, HF.out.skip HNF.out, HBR.out.alloc HBR.out.size _⟩, by have := HLT.out; simp only [intOf]; omega⟩
    · have e : i = b.n := by omega
      subst e
      have hltz : ¬ (b.n : Int) < (b.n : Int) := by omega
      clear hi hlt ho hz hf hbr
      go_wp2
      go_ret
      exact ⟨_, rfl, m, f, own_row HO.out HZ.out, HF.out, HBR.out⟩
end
end Go.Proofs.YtphmfaddgpjndaaGreat

/- fit.count, fit.Choose. -/
namespace Go.Proofs.YtphmfaddgpjndaaGreat
open Go.ChangeShapes Go.WideShapes Go.RowKit

/-- how often the page of a block was written -/
def countN (c : Nat) (f : Nat → Int) (a : Nat) : Int := if a / 32 < c then f (a / 32) else 0
set_option maxRecDepth 100000 in
set_option maxHeartbeats 1600000 in
theorem count_any {w : World} {B c : Nat} {v : Value} {f : Nat → Int} (h : SlOf w B v 1 c (intF f)) (a s : Nat) (u : Bool) (ha : a ≤ 512) :
    Calls Tryz.prog 155 #[.agg #[.int .i64 a, .int .i64 s, .bool u], v] w fun e w' => e = .returned (.int .i64 (countN c f a)) ∧ Below w.heap.size w w' := by
  unfold countN
  obtain ⟨ao, cap, rfl⟩ := h.form
  have d0 : ¬ (a : Int) < 0 := by omega
  have d00 : (0 : Int) ≤ (a : Int) := by omega
  obtain ⟨p, hp⟩ : ∃ p, a / 32 = p := ⟨_, rfl⟩
  have e1 : (a : Int).tdiv 32 = (p : Int) := by have := tdiv_nat a 32; rw [hp] at this; exact this
  have e2 : (a : Int) / 32 = (p : Int) := by omega
  have w1 : IntKind.i64.wrap (p : Int) = (p : Int) := by rw [IntKind.wrap_i64]; omega
  have HB : Hid (Below w.heap.size w (w.alloc (.cells #[.int .i64 a, .int .i64 s, .bool u] 45))) := Lib.hid ((Below.refl _ _).alloc (Nat.le_refl _) _)
  rw [hp]
  by_cases hpc : p < c
  · obtain ⟨g, off, cap2, e, _, _, _, hcell⟩ := h.cells (by omega)
    obtain ⟨rfl, rfl⟩ : ao = some ⟨g, off, none⟩ ∧ cap = cap2 := by simpa using e
    have hc := hcell p hpc 0 (by decide)
    rw [Nat.mul_one, Nat.add_zero] at hc
    have hc2 : cellAt (obj w g) (off + p) = some (.int .i64 (f p)) := hc
    have hg := lt_of_cell hc2
    have hc3 : cellAt (obj (w.alloc (.cells #[.int .i64 a, .int .i64 s, .bool u] 45)) g) (off + p) = some (.int .i64 (f p)) := by rw [obj_alloc_past w _ g hg]; exact hc2
    have hq := newA w (.cells #[.int .i64 a, .int .i64 s, .bool u] 45)
    have hql := lt_of_obj hq
    have hgl : g < (w.alloc (.cells #[.int .i64 a, .int .i64 s, .bool u] 45)).heap.size := by simp; omega
    have p0 : (0 : Int) ≤ (p : Int) := by omega
    have p1 : (p : Int) < (c : Int) := by omega
    have p2 : ¬ (p : Int) ≥ (c : Int) := by omega
    rw [if_pos hpc]
    generalize f p = r at hc3
    clear h hp hcell hpc hc hc2 hg e ha
    go_enter Tryz.func155, Tryz.ntmps155
    go_wp2_with fail
    go_ret
    exact ⟨rfl, HB.out⟩
  · have p2 : (p : Int) ≥ (c : Int) := by omega
    rw [if_neg hpc]
    clear h hp hpc ha
    go_enter Tryz.func155, Tryz.ntmps155
    go_wp2_with fail
    go_ret
    exact ⟨rfl, HB.out⟩

set_option maxRecDepth 100000 in
set_option maxHeartbeats 1600000 in
theorem choose_any {w : World} {B N c need : Nat} {b : Bs} {v vc : Value} {cf : Nat → Int} (h : RowSl w B v 3 b.n (blkF b)) (hc : SlOf w B vc 1 c (intF cf)) (hb : b.Ok N) (hn : 2 ≤ need) (hn2 : need ≤ 1000) :
    Calls Tryz.prog 133 #[v, .int .i64 need, vc] w fun e w' => ∃ r : Int, e = .returned (.int .i64 r) ∧ Below w.heap.size w w' ∧ ((r = -1 ∧ ∀ j, j < b.n → ¬ fits b need j) ∨ ∃ k : Nat, r = k ∧ k < b.n ∧ fits b need k ∧ ∀ j, j < b.n → fits b need j → b.sz k ≤ b.sz j) := by
  have hcn := hb.count
  have KF := Lib.hid (fits_any h hb hn hn2)
  obtain ⟨ao, cap0, ev⟩ := hc.form
  obtain ⟨g, off, cap, rfl, _, _, _, hg, hrow, hcells⟩ := blk_row h (by omega)
  have HROW := Lib.hid hrow
  have HCELL := Lib.hid hcells
  have HC := Lib.hid hcn
  have HCT := Lib.hid hc
  have HG := Lib.hid hg
  have HLT := Lib.hid (fun i (hi : i < b.n) => hb.lt hi)
  have HBIG := Lib.hid hb.big
  clear h hb hcn hrow hcells hg hn hn2 hc
  subst ev
  go_enter Tryz.func133, Tryz.ntmps133
  go_wp2_with fail
  refine KF.out.mono ?_
  rintro _ w1 ⟨v', m, f, rfl, hr, hf, hb1⟩
  obtain ⟨ao1, cap1, rfl⟩ := hr.form
  have hfle := hf.le
  have HF := Lib.hid hf
  have HR := Lib.hid hr
  have HB1 := Lib.hid hb1
  have HFL := Lib.hid hfle
  clear hr hf hb1 KF hfle
  go_wp2_with fail
  go_loopw [16, 7] (fun ix bs wr => ∃ i : Nat, i ≤ m ∧ ix = .int .i64 i ∧ ((i = 0 ∧ bs = .int .i64 (-1)) ∨ ∃ t, t < m ∧ bs = .int .i64 (f t)) ∧ Below w1.heap.size w1 wr) (fun ix _ _ => m - (intOf ix).toNat)
  case atStart => exact ⟨0, Nat.zero_le _, rfl, Or.inl ⟨rfl, rfl⟩, Below.refl _ _⟩
  case round =>
    obtain ⟨i, hi, rfl, hbest, hbr⟩ := hrel
    have HBR := Lib.hid hbr
    by_cases hlt : i < m
    · have hltz : (i : Int) < (m : Int) := by omega
      have i0' : (0 : Int) ≤ (i : Int) := Int.natCast_nonneg i
      have wi : IntKind.i64.wrap ((i : Int) + 1) = (i : Int) + 1 := by have := HC.out; have := HFL.out; rw [IntKind.wrap_i64]; omega
      obtain ⟨g1, off1, c1, e, _, _, _, hg1, _, hcl⟩ := HR.out.cells (by omega)
      obtain ⟨rfl, rfl⟩ : ao1 = some ⟨g1, off1, none⟩ ∧ cap1 = c1 := by simpa using e
      have hc0 : cellAt (obj w1 g1) (off1 + i) = some (.int .i64 (f i : Nat)) := by
        have := hcl i hlt 0 (by decide)
        rw [Nat.mul_one, Nat.add_zero] at this; exact this
      rw [← obj_below hbr hg1] at hc0
      have hgd := HF.out.good i hlt
      obtain ⟨z, hz⟩ : ∃ z, f i = z := ⟨_, rfl⟩
      have HZ := Lib.hid hz
      rw [hz] at hc0 hgd
      have HLTI := Lib.hid hlt
      have HBW : Hid (Below w.heap.size w wr) := Lib.hid (HB1.out.trans (hbr.mono HB1.out.size))
      rcases hbest with ⟨rfl, rfl⟩ | ⟨t, ht, rfl⟩
      · rw [Nat.add_zero] at hc0
        clear hi hlt hbr e hcl hgd hz
        go_wp2_with fail
        exact ⟨⟨0 + 1, HLTI.out, by simp, Or.inr ⟨0, HLTI.out, by rw [HZ.out]⟩, HBR.out⟩, by have := HLTI.out; simp only [intOf]; omega⟩
      · obtain ⟨y, hy⟩ : ∃ y, f t = y := ⟨_, rfl⟩
        have HY := Lib.hid hy
        have hgt := HF.out.good t ht
        rw [hy] at hgt
        have HT := Lib.hid ht
        have y0 : ¬ (y : Int) < 0 := by omega
        have y1 : (0 : Int) ≤ (y : Int) := by omega
        have y2 : (y : Int) < (b.n : Int) := by omega
        have z1 : (0 : Int) ≤ (z : Int) := by omega
        have z2 : (z : Int) < (b.n : Int) := by omega
        have rz := HROW.out z hgd.1
        have ry := HROW.out y hgt.1
        have cz := (HCELL.out z hgd.1).1
        have cy := (HCELL.out y hgt.1).1
        have hk := below_kept HBW.out
        rw [← obj_below HBW.out HG.out] at rz ry cz cy
        have glr : g < wr.heap.size := by have := HBW.out.size; have := HG.out; omega
        have KZ := Lib.hid (fun x => count_any (w := more wr x) ((HCT.out.kept hk (by simp)).kept (below_kept (more_below wr x)) (by simp)) (b.at z) (b.sz z) (b.us z) (by have := HLT.out z hgd.1; have := HBIG.out; omega))
        have KY := Lib.hid (fun x => count_any (w := more wr x) ((HCT.out.kept hk (by simp)).kept (below_kept (more_below wr x)) (by simp)) (b.at y) (b.sz y) (b.us y) (by have := HLT.out y hgt.1; have := HBIG.out; omega))
        rw [hy]
        generalize b.at z = az at rz cz KZ
        generalize b.at y = ay at ry cy KY
        generalize b.sz z = sz at rz KZ
        generalize b.sz y = sy at ry KY
        generalize b.us z = uz at rz KZ
        generalize b.us y = uy at ry KY
        generalize countN c cf az = cz1 at KZ
        generalize countN c cf ay = cy1 at KY
        clear hi hlt hbr e hcl hgd hgt hz hy ht hk
        go_wp2_with fail
        refine wp_region_more_tail 12 (by kernel_rfl) (by kernel_rfl) (by kernel_rfl) ?_
        simp only [List.take_succ_cons, List.take_zero, List.drop_succ_cons, List.drop_zero]
        iterate 6 (go_big_quiet_step ((go_at_call 155; exact more_call (KZ.out _))))
        iterate 6 (go_big_quiet_step ((go_at_call 155; exact more_call (KY.out _))))
        refine wpQuiet_nil ?_
        intro _ hw'
        obtain ⟨x, hw''⟩ := hw'
        subst hw''
        have HB2 : Hid (Below w1.heap.size w1 (more wr x)) := Lib.hid (HBR.out.trans ((more_below wr x).mono HBR.out.size))
        have cz2 : cellAt (obj (more wr x) g) (off + z * 3) = some (.int .i64 az) := by rw [obj_more _ _ _ glr]; exact cz
        have cy2 : cellAt (obj (more wr x) g) (off + y * 3) = some (.int .i64 ay) := by rw [obj_more _ _ _ glr]; exact cy
        clear KZ KY rz ry cz cy glr HBR HBW hc0
        change wpList _ _ _ _ _ (more wr x)
        generalize more wr x = w2 at HB2 cz2 cy2 ⊢
        rcases Int.lt_trichotomy cz1 cy1 with hcmp | hcmp | hcmp
        · go_wp2_with fail
          go_big_quiet (fail)
          have HB3 : Hid (Below w1.heap.size w1 (w2.drewN nq)) := Lib.hid ⟨HB2.out.os, HB2.out.tape, HB2.out.output, HB2.out.size, HB2.out.block⟩
          generalize w2.drewN nq = w3 at HB3 ⊢
          clear HB2 cz2 cy2
          go_wp2_with fail
          exact ⟨⟨i + 1, HLTI.out, by simp, Or.inr ⟨i, HLTI.out, by rw [HZ.out]⟩, HB3.out⟩, by have := HLTI.out; simp only [intOf]; omega⟩
        · have hcmp := Lib.hid hcmp
          by_cases haa : az < ay
          · have haa := Lib.hid haa
            go_wp2_with fail
            have d1 : ¬ cz1 < cy1 := by have := hcmp.out; omega
            have d2 : (cz1 == cy1) = true := by have := hcmp.out; simp; omega
            have d3 : (az : Int) < (ay : Int) := by have := haa.out; omega
            go_big_quiet (fail)
            have HB3 : Hid (Below w1.heap.size w1 (w2.drewN nq)) := Lib.hid ⟨HB2.out.os, HB2.out.tape, HB2.out.output, HB2.out.size, HB2.out.block⟩
            generalize w2.drewN nq = w3 at HB3 ⊢
            clear HB2 cz2 cy2
            go_wp2_with fail
            exact ⟨⟨i + 1, HLTI.out, by simp, Or.inr ⟨i, HLTI.out, by rw [HZ.out]⟩, HB3.out⟩, by have := HLTI.out; simp only [intOf]; omega⟩
          · have haa := Lib.hid haa
            go_wp2_with fail
            have d1 : ¬ cz1 < cy1 := by have := hcmp.out; omega
            have d2 : (cz1 == cy1) = true := by have := hcmp.out; simp; omega
            have d3 : ¬ (az : Int) < (ay : Int) := by have := haa.out; omega
            go_big_quiet (fail)
            have HB3 : Hid (Below w1.heap.size w1 (w2.drewN nq)) := Lib.hid ⟨HB2.out.os, HB2.out.tape, HB2.out.output, HB2.out.size, HB2.out.block⟩
            generalize w2.drewN nq = w3 at HB3 ⊢
            clear HB2 cz2 cy2
            go_wp2_with fail
            exact ⟨⟨i + 1, HLTI.out, by simp, Or.inr ⟨t, HT.out, by rw [HY.out]⟩, HB3.out⟩, by have := HLTI.out; simp only [intOf]; omega⟩
        · have hcmp := Lib.hid hcmp
          go_wp2_with fail
          have d1 : ¬ cz1 < cy1 := by have := hcmp.out; omega
          have d2 : (cz1 == cy1) = false := by have := hcmp.out; simp; omega
          go_big_quiet (fail)
          have HB3 : Hid (Below w1.heap.size w1 (w2.drewN nq)) := Lib.hid ⟨HB2.out.os, HB2.out.tape, HB2.out.output, HB2.out.size, HB2.out.block⟩
          generalize w2.drewN nq = w3 at HB3 ⊢
          clear HB2 cz2 cy2
          go_wp2_with fail
          exact ⟨⟨i + 1, HLTI.out, by simp, Or.inr ⟨t, HT.out, by rw [HY.out]⟩, HB3.out⟩, by have := HLTI.out; simp only [intOf]; omega⟩
    · have e : i = m := by omega
      subst e
      have hltz : ¬ (i : Int) < (i : Int) := by omega
      have HBW : Hid (Below w.heap.size w wr) := Lib.hid (HB1.out.trans (hbr.mono HB1.out.size))
      rcases hbest with ⟨h0, rfl⟩ | ⟨t, ht, rfl⟩
      · have HN := Lib.hid (HF.out.none h0)
        clear hi hlt hbr h0
        go_wp2
        go_ret
        exact ⟨_, rfl, HBW.out, Or.inl ⟨rfl, HN.out⟩⟩
      · have HN := Lib.hid (HF.out.good t ht)
        clear hi hlt hbr ht
        go_wp2
        go_ret
        exact ⟨_, rfl, HBW.out, Or.inr ⟨f t, rfl, HN.out.1, HN.out.2.1, HN.out.2.2⟩⟩
end Go.Proofs.YtphmfaddgpjndaaGreat

/- carve.words, merge.words, carve.Off, carve.taken, merge.around. (Printed by wip/d/genY6.py.) -/
namespace Go.Proofs.YtphmfaddgpjndaaGreat
open Go.ChangeShapes Go.WideShapes Go.RowKit

/-- rows of blocks -/
def blkR (a s : Nat → Nat) (u : Nat → Bool) : Nat → Nat → Value := fun i t => if t = 0 then .int .i64 (a i) else if t = 1 then .int .i64 (s i) else .bool (u i)
theorem blkR_row {w : World} {B n : Nat} {v : Value} {a s : Nat → Nat} {u : Nat → Bool} (h : RowSl w B v 3 n (blkR a s u)) (h0 : 0 < n) : ∃ g off cap, v = .slice (some ⟨g, off, none⟩) n cap ∧ n ≤ cap ∧ cap ≤ 9223372036854775807 ∧ B ≤ g ∧ g < w.heap.size ∧
    (∀ i, i < n → rowAt (obj w g) (off + i * 3) 3 = some #[.int .i64 (a i), .int .i64 (s i), .bool (u i)]) ∧ (∀ i, i < n → cellAt (obj w g) (off + i * 3) = some (.int .i64 (a i)) ∧ cellAt (obj w g) (off + i * 3 + 1) = some (.int .i64 (s i)) ∧ cellAt (obj w g) (off + i * 3 + 2) = some (.bool (u i))) := by
  obtain ⟨g, off, cap, e, h1, h2, h3, h4, hob, h5⟩ := h.cells h0
  refine ⟨g, off, cap, e, h1, h2, h3, h4, fun i hi => ?_, fun i hi => ⟨h5 i hi 0 (by decide), h5 i hi 1 (by decide), h5 i hi 2 (by decide)⟩⟩
  refine rowAt_of rfl (by decide) (fun t ht => ?_) hob
  rw [h5 i hi t ht]
  have : t = 0 ∨ t = 1 ∨ t = 2 := by omega
  rcases this with rfl | rfl | rfl <;> rfl
/-- their sum -/
def sumN (s : Nat → Nat) : Nat → Nat
  | 0 => 0
  | k + 1 => sumN s k + s k
theorem sumN_at (b : Bs) : ∀ k, sumN b.sz k = b.at k
  | 0 => rfl
  | k + 1 => by show sumN b.sz k + b.sz k = b.at k + b.sz k; rw [sumN_at b k]
theorem sumN_mono (s : Nat → Nat) {i j : Nat} (h : i ≤ j) : sumN s i ≤ sumN s j := by
  induction j with
  | zero => have : i = 0 := by omega
            subst this; exact Nat.le_refl _
  | succ j ih =>
    by_cases e : i = j + 1
    · subst e; exact Nat.le_refl _
    · exact Nat.le_trans (ih (by omega)) (Nat.le_add_right _ _)
theorem sumN_two {s : Nat → Nat} : ∀ n, (∀ i, i < n → 2 ≤ s i) → 2 * n ≤ sumN s n
  | 0, _ => by omega
  | n + 1, h => by
    have h1 := sumN_two n fun i hi => h i (by omega)
    have h2 := h n (by omega)
    show 2 * (n + 1) ≤ sumN s n + s n
    omega

set_option maxRecDepth 100000 in
set_option maxHeartbeats 3200000 in
theorem cwords_any {w : World} {B n : Nat} {v : Value} {a s : Nat → Nat} {u : Nat → Bool} (h : RowSl w B v 3 n (blkR a s u)) (h2 : ∀ i, i < n → 2 ≤ s i ∧ s i ≤ 512) (h3 : sumN s n ≤ 512) :
    Calls Tryz.prog 166 #[v] w fun e w' => e = .returned (.int .i64 (sumN s n : Nat)) ∧ Below w.heap.size w w' := by
  obtain ⟨ao, cap0, rfl⟩ := h.form
  have hnn : n ≤ 256 := by have := sumN_two (s := s) n fun i hi => (h2 i hi).1; omega
  have HROW : Hid (∀ i, i < n → ∃ g off, ao = some ⟨g, off, none⟩ ∧ g < w.heap.size ∧ rowAt (obj w g) (off + i * 3) 3 = some #[.int .i64 (a i), .int .i64 (s i), .bool (u i)]) := Lib.hid (fun i hi => by
    obtain ⟨g, off, cap, e, _, _, _, hg, hrow, _⟩ := blkR_row h (by omega)
    have e1 : ao = some ⟨g, off, none⟩ ∧ cap0 = cap := by simpa using e
    exact ⟨g, off, e1.1, hg, hrow i hi⟩)
  have KB := Lib.hid (fun i (hi : i < n) w => bmay_any (s i) (h2 i hi) w)
  have HS := Lib.hid h3
  have HN := Lib.hid hnn
  have HM := Lib.hid (fun i j (hij : i ≤ j) => sumN_mono s hij)
  clear h h2 h3 hnn
  go_enter Tryz.func166, Tryz.ntmps166
  go_wp2_with fail
  go_loopw [8, 3] (fun ix t wr => ∃ i : Nat, i ≤ n ∧ ix = .int .i64 i ∧ t = .int .i64 (sumN s i : Nat) ∧ Below w.heap.size w wr) (fun ix _ _ => n - (intOf ix).toNat)
  case atStart => exact ⟨0, Nat.zero_le _, rfl, rfl, Below.refl _ _⟩
  case round =>
    obtain ⟨i, hi, rfl, rfl, hbr⟩ := hrel
    have HBR := Lib.hid hbr
    by_cases hlt : i < n
    · have hltz : (i : Int) < (n : Int) := by omega
      have i0' : (0 : Int) ≤ (i : Int) := Int.natCast_nonneg i
      have wi : IntKind.i64.wrap ((i : Int) + 1) = (i : Int) + 1 := by have := HN.out; rw [IntKind.wrap_i64]; omega
      obtain ⟨g, off, rfl, hg, hr⟩ := HROW.out i hlt
      rw [← obj_below hbr hg] at hr
      have KBi := Lib.hid (KB.out i hlt)
      have h1 := HM.out i n (by omega)
      have h2 := HM.out (i + 1) n (by omega)
      have h3 := HS.out
      have he : sumN s (i + 1) = sumN s i + s i := rfl
      obtain ⟨t, ht⟩ : ∃ t, sumN s i = t := ⟨_, rfl⟩
      obtain ⟨x, hx⟩ : ∃ x, s i = x := ⟨_, rfl⟩
      obtain ⟨z, hz⟩ : ∃ z, a i = z := ⟨_, rfl⟩
      obtain ⟨y, hy⟩ : ∃ y, u i = y := ⟨_, rfl⟩
      rw [ht, hx] at he
      rw [ht] at h1 ⊢
      rw [hx, hy, hz] at hr
      rw [hx] at KBi
      have d1 : ¬ (t : Int) > 512 := by omega
      obtain ⟨t2, ht2⟩ : ∃ t2, t + x = t2 := ⟨_, rfl⟩
      have w2 : IntKind.i64.wrap ((t : Int) + (x : Int)) = (t2 : Int) := by rw [IntKind.wrap_i64]; omega
      have HX := Lib.hid (And.intro hlt (he.trans ht2))
      clear hi hlt hbr h1 h2 h3 he ht hx hz hy ht2 hg
      go_wp2_with fail
      refine (KBi.out _).mono ?_
      rintro _ _ ⟨rfl, rfl⟩
      go_wp2_with fail
      exact ⟨⟨i + 1, HX.out.1, by simp, by rw [HX.out.2], HBR.out.alloc HBR.out.size _⟩, by have := HX.out.1; simp only [intOf]; omega⟩
    · have e : i = n := by omega
      subst e
      have hltz : ¬ (i : Int) < (i : Int) := by omega
      clear hi hlt hbr
      go_wp2
      go_ret
      exact ⟨rfl, HBR.out⟩
set_option maxRecDepth 100000 in
set_option maxHeartbeats 3200000 in
theorem mwords_any {w : World} {B n : Nat} {v : Value} {a s : Nat → Nat} {u : Nat → Bool} (h : RowSl w B v 3 n (blkR a s u)) (h2 : ∀ i, i < n → 2 ≤ s i ∧ s i ≤ 512) (h3 : sumN s n ≤ 512) :
    Calls Tryz.prog 163 #[v] w fun e w' => e = .returned (.int .i64 (sumN s n : Nat)) ∧ Below w.heap.size w w' := by
  obtain ⟨ao, cap0, rfl⟩ := h.form
  have hnn : n ≤ 256 := by have := sumN_two (s := s) n fun i hi => (h2 i hi).1; omega
  have HROW : Hid (∀ i, i < n → ∃ g off, ao = some ⟨g, off, none⟩ ∧ g < w.heap.size ∧ rowAt (obj w g) (off + i * 3) 3 = some #[.int .i64 (a i), .int .i64 (s i), .bool (u i)]) := Lib.hid (fun i hi => by
    obtain ⟨g, off, cap, e, _, _, _, hg, hrow, _⟩ := blkR_row h (by omega)
    have e1 : ao = some ⟨g, off, none⟩ ∧ cap0 = cap := by simpa using e
    exact ⟨g, off, e1.1, hg, hrow i hi⟩)
  have KB := Lib.hid (fun i (hi : i < n) w => bmay_any (s i) (h2 i hi) w)
  have HS := Lib.hid h3
  have HN := Lib.hid hnn
  have HM := Lib.hid (fun i j (hij : i ≤ j) => sumN_mono s hij)
  clear h h2 h3 hnn
  go_enter Tryz.func163, Tryz.ntmps163
  go_wp2_with fail
  go_loopw [8, 3] (fun ix t wr => ∃ i : Nat, i ≤ n ∧ ix = .int .i64 i ∧ t = .int .i64 (sumN s i : Nat) ∧ Below w.heap.size w wr) (fun ix _ _ => n - (intOf ix).toNat)
  case atStart => exact ⟨0, Nat.zero_le _, rfl, rfl, Below.refl _ _⟩
  case round =>
    obtain ⟨i, hi, rfl, rfl, hbr⟩ := hrel
    have HBR := Lib.hid hbr
    by_cases hlt : i < n
    · have hltz : (i : Int) < (n : Int) := by omega
      have i0' : (0 : Int) ≤ (i : Int) := Int.natCast_nonneg i
      have wi : IntKind.i64.wrap ((i : Int) + 1) = (i : Int) + 1 := by have := HN.out; rw [IntKind.wrap_i64]; omega
      obtain ⟨g, off, rfl, hg, hr⟩ := HROW.out i hlt
      rw [← obj_below hbr hg] at hr
      have KBi := Lib.hid (KB.out i hlt)
      have h1 := HM.out i n (by omega)
      have h2 := HM.out (i + 1) n (by omega)
      have h3 := HS.out
      have he : sumN s (i + 1) = sumN s i + s i := rfl
      obtain ⟨t, ht⟩ : ∃ t, sumN s i = t := ⟨_, rfl⟩
      obtain ⟨x, hx⟩ : ∃ x, s i = x := ⟨_, rfl⟩
      obtain ⟨z, hz⟩ : ∃ z, a i = z := ⟨_, rfl⟩
      obtain ⟨y, hy⟩ : ∃ y, u i = y := ⟨_, rfl⟩
      rw [ht, hx] at he
      rw [ht] at h1 ⊢
      rw [hx, hy, hz] at hr
      rw [hx] at KBi
      have d1 : ¬ (t : Int) > 512 := by omega
      obtain ⟨t2, ht2⟩ : ∃ t2, t + x = t2 := ⟨_, rfl⟩
      have w2 : IntKind.i64.wrap ((t : Int) + (x : Int)) = (t2 : Int) := by rw [IntKind.wrap_i64]; omega
      have HX := Lib.hid (And.intro hlt (he.trans ht2))
      clear hi hlt hbr h1 h2 h3 he ht hx hz hy ht2 hg
      go_wp2_with fail
      refine (KBi.out _).mono ?_
      rintro _ _ ⟨rfl, rfl⟩
      go_wp2_with fail
      exact ⟨⟨i + 1, HX.out.1, by simp, by rw [HX.out.2], HBR.out.alloc HBR.out.size _⟩, by have := HX.out.1; simp only [intOf]; omega⟩
    · have e : i = n := by omega
      subst e
      have hltz : ¬ (i : Int) < (i : Int) := by omega
      clear hi hlt hbr
      go_wp2
      go_ret
      exact ⟨rfl, HBR.out⟩

set_option maxHeartbeats 800000 in
theorem off_any (a s : Nat) (u : Bool) (ha : a ≤ 512) (w : World) : Calls Tryz.prog 135 #[.agg #[.int .i64 a, .int .i64 s, .bool u]] w fun e w' => e = .returned (.int .i64 ((a + 1) * 8 : Nat)) ∧ Below w.heap.size w w' := by
  obtain ⟨b, hb⟩ : ∃ b, a + 1 = b := ⟨_, rfl⟩
  obtain ⟨c, hc⟩ : ∃ c, b * 8 = c := ⟨_, rfl⟩
  rw [hb, hc]
  have d1 : ¬ (a : Int) < 0 := by omega
  have d2 : ¬ (a : Int) > 512 := by omega
  have w1 : IntKind.i64.wrap ((a : Int) + 1) = (b : Int) := by rw [IntKind.wrap_i64]; omega
  have w2 : IntKind.i64.wrap ((b : Int) * 8) = (c : Int) := by rw [IntKind.wrap_i64]; omega
  have HB : Hid (Below w.heap.size w (w.alloc (.cells #[.int .i64 a, .int .i64 s, .bool u] 45))) := Lib.hid ((Below.refl _ _).alloc (Nat.le_refl _) _)
  have hq := newA w (.cells #[.int .i64 a, .int .i64 s, .bool u] 45)
  have hql := lt_of_obj hq
  clear ha hb hc
  go_enter Tryz.func135, Tryz.ntmps135
  go_wp2_with fail
  go_ret
  exact ⟨rfl, HB.out⟩
end Go.Proofs.YtphmfaddgpjndaaGreat

/- carve.taken. -/
namespace Go.Proofs.YtphmfaddgpjndaaGreat
open Go.ChangeShapes Go.WideShapes Go.RowKit

theorem fresh_own {w : World} {g base size : Nat} {c : Array Value} {t : TypeId} (h : obj w g = some (.cells c t (0, 0))) (hc : c.size = size) (hb : base ≤ g) : w.ownsRow base t size (.slice (some ⟨g, 0, none⟩) 1 1) 1 c.toList :=
  ⟨by rw [Nat.one_mul, ← hc, Array.length_toList], .inr ⟨g, 1, c, rfl, hb, h, Nat.le_refl _, by unfold maxLen; omega, by rw [Nat.one_mul]; exact hc, by rw [Nat.one_mul, ← hc, List.take_of_length_le (by simp)]⟩⟩
theorem news_new' (w : World) (l : List Value) (t : TypeId) (H : Nat) (hH : w.heap.size = H) : ∀ j u, l[j]? = some u → (w.alloc (.cells l.toArray t)).cell? ((⟨H, 0, none⟩ : Addr).add j) = some u := by
  subst hH; exact news_new w l t
/-- the blocks that one is of which so many words are taken -/
def takA (z t : Nat) : Nat → Nat := fun i => if i = 0 then z else z + t
def takS (s t : Nat) : Nat → Nat := fun i => if i = 0 then t else s - t
def takU : Nat → Bool := fun i => i == 0
def takM (s t : Nat) : Nat := if t < s then 2 else 1
theorem tak_one (z s t : Nat) : [Value.int .i64 (z : Int), .int .i64 (t : Int), .bool true] = flatF 3 (blkR (takA z t) (takS s t) takU) 1 := rfl
theorem tak_two (z s t : Nat) : [Value.int .i64 (z : Int), .int .i64 (t : Int), .bool true] ++ [Value.int .i64 ((z + t : Nat) : Int), .int .i64 ((s - t : Nat) : Int), .bool false] = flatF 3 (blkR (takA z t) (takS s t) takU) 2 := rfl
theorem takes_le {s n : Nat} (h : 2 ≤ n ∧ n ≤ s) : 2 ≤ takesN s n ∧ takesN s n ≤ s ∧ (takesN s n < s → takesN s n + 2 ≤ s) := by
  unfold takesN; split <;> omega

set_option maxRecDepth 100000 in
set_option maxHeartbeats 3200000 in
theorem taken_any {w : World} {B L k need : Nat} {b : Bs} {v : Value} (h : RowSl w B v 3 b.n (blkF b)) (hb : b.Ok (L * 8)) (hk : k < b.n) (hu : b.us k = false) (hn : 2 ≤ need ∧ need ≤ b.sz k) :
    Calls Tryz.prog 156 #[v, .int .i64 k, .int .i64 need] w fun e w' => ∃ v', e = .returned v' ∧
      RowSl w' w.heap.size v' 3 (takM (b.sz k) (takesN (b.sz k) need)) (blkR (takA (b.at k) (takesN (b.sz k) need)) (takS (b.sz k) (takesN (b.sz k) need)) takU) ∧ Below w.heap.size w w' := by
  obtain ⟨i0, hi0, hz0, hz1, hz2⟩ := info_parts' info45
  have hcn := hb.count
  have hbig := hb.big
  have hsz := hb.size hk
  have hle := hb.le hk
  have htk := takes_le hn
  have KW := cwords_any (v := v) (a := b.at) (s := b.sz) (u := b.us) (n := b.n) h (fun i hi => hb.size hi) (by rw [sumN_at, hb.sum]; omega)
  rw [sumN_at, hb.sum] at KW
  have KW := Lib.hid KW
  have KM := Lib.hid (fun w1 (hb1 : Below w.heap.size w w1) => cmay_any (h.below hb1) hb)
  have KT := Lib.hid (fun w => takes_any (b.sz k) need (by omega) w)
  obtain ⟨g, off, cap, rfl, _, _, _, hg, hrow, hcells⟩ := blk_row h (by omega)
  have hr := hrow k hk
  have hc := (hcells k hk).2.2
  obtain ⟨N, hN⟩ : ∃ N, L * 8 = N := ⟨_, rfl⟩
  rw [hN] at KW KM
  rw [hu] at hr hc
  generalize b.at k = z at hr hle ⊢
  generalize b.sz k = s at hr hsz hle hn htk KT ⊢
  generalize takesN s need = t at htk KT ⊢
  have HR := Lib.hid hr
  have HC := Lib.hid hc
  have HG := Lib.hid hg
  have i0' : (0 : Int) ≤ (k : Int) := Int.natCast_nonneg k
  have i1 : (k : Int) < (b.n : Int) := by omega
  have i2 : ¬ (k : Int) < 0 := by omega
  have i3 : ¬ (k : Int) ≥ (b.n : Int) := by omega
  have ht0 : ((t : Int) == 0) = false := by simp; omega
  have HT := Lib.hid htk
  have HL := Lib.hid (show z + s ≤ 512 ∧ s ≤ 512 by omega)
  clear h hb hk hu hcn hbig hsz hle htk hn hrow hcells hr hc hg hN
  by_cases hts : t < s
  · have d1 : (t : Int) < (s : Int) := by omega
    have w1 : IntKind.i64.wrap ((z : Int) + (t : Int)) = ((z + t : Nat) : Int) := by have := HT.out; have := HL.out; rw [IntKind.wrap_i64]; omega
    have w2 : IntKind.i64.wrap ((s : Int) - (t : Int)) = ((s - t : Nat) : Int) := by have := HT.out; have := HL.out; rw [IntKind.wrap_i64]; omega
    have e2 : takM s t = 2 := by unfold takM; rw [if_pos hts]
    rw [e2]
    have h2 := tak_two z s t
    generalize hzt : z + t = zt at w1 h2
    generalize hst : s - t = st at w2 h2
    have H2 := Lib.hid h2
    clear hts e2 hzt hst h2
    go_enter Tryz.func156, Tryz.ntmps156
    go_wp2_with fail
    refine KW.out.mono ?_
    rintro _ w1 ⟨rfl, hb1⟩
    go_wp2_with fail
    refine (KM.out w1 hb1).mono ?_
    rintro _ w2 ⟨rfl, hb2⟩
    have hbb := hb1.trans (hb2.mono hb1.size)
    have hr := HR.out
    have hc := HC.out
    rw [← obj_below hbb HG.out] at hr hc
    have HB2 := Lib.hid hbb
    clear hb1 hb2 KW KM hbb
    go_wp2_with fail
    refine (KT.out _).mono ?_
    rintro _ _ ⟨rfl, rfl⟩
    have HOW : Hid (((w2.alloc (.cells #[.int .i64 z, .int .i64 s, .bool false] 45)).alloc (.cells #[.int .i64 z, .int .i64 t, .bool true] 45)).ownsRow w.heap.size 45 3 (.slice (some ⟨w2.heap.size + 1, 0, none⟩) 1 1) 1 [.int .i64 z, .int .i64 t, .bool true]) :=
      Lib.hid (fresh_own (by have := newA (w2.alloc (.cells #[.int .i64 z, .int .i64 s, .bool false] 45)) (.cells #[.int .i64 z, .int .i64 t, .bool true] 45); simpa using this) rfl (by have := HB2.out.size; omega))
    have HB3 : Hid (Below w.heap.size w ((w2.alloc (.cells #[.int .i64 z, .int .i64 s, .bool false] 45)).alloc (.cells #[.int .i64 z, .int .i64 t, .bool true] 45))) := Lib.hid ((HB2.out.alloc HB2.out.size _).alloc (by have := HB2.out.size; simp; omega) _)
    go_wp2_with (at_builtin; refine wpList_append_lies _ rfl (.tmp 51) (.tmp 61) 42 rfl w.heap.size 45 i0 _ 3 24 Tryz.underlying42 hi0 hz0 hz1 hz2 rfl (by decide) _ 1 _ rfl (HOW.out.alloc _) ⟨w2.heap.size + 1 + 1, 0, none⟩ 1 1 [.int .i64 (zt : Nat), .int .i64 (st : Nat), .bool false] rfl rfl (news_new' _ _ _ _ (by simp)) (by simp [Value.oneCell']) (by decide) (by unfold maxLen; omega) (by omega) (by have := HB3.out.size; simp at this ⊢; omega) (w2.heap.size + 1 + 1 + 1) (by simp) ?_; intro gA capA wA hownA hgrowA hatA hltA)
    go_ret
    exact ⟨_, rfl, own_row (by rw [← H2.out]; exact hownA) (fun e => by omega), below_own HB3.out HB3.out.size HOW.out hgrowA⟩
  · have d1 : ¬ (t : Int) < (s : Int) := by omega
    have e2 : takM s t = 1 := by unfold takM; rw [if_neg hts]
    rw [e2]
    clear hts e2
    go_enter Tryz.func156, Tryz.ntmps156
    go_wp2_with fail
    refine KW.out.mono ?_
    rintro _ w1 ⟨rfl, hb1⟩
    go_wp2_with fail
    refine (KM.out w1 hb1).mono ?_
    rintro _ w2 ⟨rfl, hb2⟩
    have hbb := hb1.trans (hb2.mono hb1.size)
    have hr := HR.out
    have hc := HC.out
    rw [← obj_below hbb HG.out] at hr hc
    have HB2 := Lib.hid hbb
    clear hb1 hb2 KW KM hbb
    go_wp2_with fail
    refine (KT.out _).mono ?_
    rintro _ _ ⟨rfl, rfl⟩
    have HOW : Hid (((w2.alloc (.cells #[.int .i64 z, .int .i64 s, .bool false] 45)).alloc (.cells #[.int .i64 z, .int .i64 t, .bool true] 45)).ownsRow w.heap.size 45 3 (.slice (some ⟨w2.heap.size + 1, 0, none⟩) 1 1) 1 [.int .i64 z, .int .i64 t, .bool true]) :=
      Lib.hid (fresh_own (by have := newA (w2.alloc (.cells #[.int .i64 z, .int .i64 s, .bool false] 45)) (.cells #[.int .i64 z, .int .i64 t, .bool true] 45); simpa using this) rfl (by have := HB2.out.size; omega))
    have HB3 : Hid (Below w.heap.size w ((w2.alloc (.cells #[.int .i64 z, .int .i64 s, .bool false] 45)).alloc (.cells #[.int .i64 z, .int .i64 t, .bool true] 45))) := Lib.hid ((HB2.out.alloc HB2.out.size _).alloc (by have := HB2.out.size; simp; omega) _)
    go_wp2_with fail
    go_ret
    exact ⟨_, rfl, own_row (by rw [← tak_one]; exact HOW.out) (fun e => by omega), HB3.out⟩
end Go.Proofs.YtphmfaddgpjndaaGreat

/- carve.Edits. -/
namespace Go.Proofs.YtphmfaddgpjndaaGreat
open Go.ChangeShapes Go.WideShapes Go.RowKit

theorem grow_obj {w w' : World} {row : Option Nat} (h : w.grownBy w' row) {g : Nat} (hg : g < w.heap.size) (hr : row ≠ some g) : obj w' g = obj w g := h.block g hg (fun e => hr e.symm)
theorem info147 : (Tryz.prog.info? 147).map (fun i => (i.zero, i.size, i.bytes)) = some (some (.agg #[.int .i64 0, .int .u64 0]), 2, 16) := by kernel_rfl
/-- edits of words -/
def edF (a : Nat → Nat) (V : Nat → Int) : Nat → Nat → Value := fun i t => if t = 0 then .int .i64 (a i) else .int .u64 (V i)
theorem ed_news (a : Nat → Nat) (V : Nat → Int) (j : Nat) : (List.range 2).map (edF a V j) = [.int .i64 (a j), .int .u64 (V j)] := rfl
/-- those of a block that is taken -/
def carA (z : Nat) : Nat → Nat := fun i => z + i
def carV (s t : Nat) : Nat → Int := fun i => if i = 0 then (hdr t true : Nat) else if i = t then (hdr (s - t) false : Nat) else 0
def carC (t i : Nat) : Nat := if i = 0 then 0 else if i = 1 then t else t + 1

set_option maxRecDepth 100000 in
set_option maxHeartbeats 3200000 in
theorem cedits_any {w : World} {B L k need : Nat} {b : Bs} {v : Value} (h : RowSl w B v 3 b.n (blkF b)) (hb : b.Ok (L * 8)) (hk : k < b.n) (hu : b.us k = false) (hn : 2 ≤ need ∧ need ≤ b.sz k) :
    Calls Tryz.prog 134 #[v, .int .i64 k, .int .i64 need] w fun e w' => ∃ v', e = .returned v' ∧
      RowSl w' w.heap.size v' 2 (carC (takesN (b.sz k) need) (takM (b.sz k) (takesN (b.sz k) need))) (edF (carA (b.at k)) (carV (b.sz k) (takesN (b.sz k) need))) ∧ Below w.heap.size w w' := by
  obtain ⟨i0, hi0, hz0, hz1, hz2⟩ := info_parts' info147
  have hsz := hb.size hk
  have hle := hb.le hk
  have hbig := hb.big
  have htk := takes_le hn
  have KT := Lib.hid (taken_any h hb hk hu hn)
  generalize b.at k = z at hle KT ⊢
  generalize b.sz k = s at hsz hle hn htk KT ⊢
  generalize takesN s need = t at htk KT ⊢
  have HT := Lib.hid (show 2 ≤ t ∧ t ≤ s ∧ (t < s → t + 2 ≤ s) ∧ z + s ≤ 512 ∧ s ≤ 512 by omega)
  obtain ⟨m, hm⟩ : ∃ m, takM s t = m := ⟨_, rfl⟩
  rw [hm] at KT ⊢
  have HM := Lib.hid hm
  have HM2 : Hid (1 ≤ m ∧ m ≤ 2 ∧ (m = 2 → t < s)) := Lib.hid (by rw [← hm]; unfold takM; split <;> omega)
  clear h hb hk hu hn hsz hle hbig htk hm
  obtain ⟨ao0, cap0, ev⟩ : ∃ ao cap, True := ⟨(), (), trivial⟩
  clear ev ao0 cap0
  go_enter Tryz.func134, Tryz.ntmps134
  go_wp2_with fail
  refine KT.out.mono ?_
  rintro _ w1 ⟨v', rfl, hr, hb1⟩
  have hm1 := HM2.out
  obtain ⟨g, off, cap, rfl, _, _, _, hg, hrow, _⟩ := blkR_row hr (by omega)
  have HROW := Lib.hid hrow
  have HG := Lib.hid hg
  have HB1 := Lib.hid hb1
  clear hr hb1 hrow hg KT hm1
  go_wp2_with fail
  go_loopw [16, 7] (fun ix s' wr => ∃ i : Nat, i ≤ m ∧ ix = .int .i64 i ∧ wr.ownsRow w1.heap.size 147 2 s' (carC t i) (flatF 2 (edF (carA z) (carV s t)) (carC t i)) ∧ (carC t i = 0 → s' = .slice none 0 0) ∧ Below w1.heap.size w1 wr) (fun ix _ _ => m - (intOf ix).toNat)
  case atStart => exact ⟨0, Nat.zero_le _, rfl, World.ownsRow_nil _ _ _ _, fun _ => rfl, Below.refl _ _⟩
  case round =>
    obtain ⟨i, hi, rfl, ho, hz, hbr⟩ := hrel
    have HO := Lib.hid ho
    have HZ := Lib.hid hz
    have HBR := Lib.hid hbr
    by_cases hlt : i < m
    · have hltz : (i : Int) < (m : Int) := by omega
      have i0' : (0 : Int) ≤ (i : Int) := Int.natCast_nonneg i
      have wi : IntKind.i64.wrap ((i : Int) + 1) = (i : Int) + 1 := by have := HM2.out; rw [IntKind.wrap_i64]; omega
      have hr := HROW.out i hlt
      rw [← obj_below hbr HG.out] at hr
      have ht := HT.out
      have hm2 := HM2.out
      have hi2 : i = 0 ∨ (i = 1 ∧ t < s) := by omega
      obtain ⟨a', ha⟩ : ∃ a', takA z t i = a' := ⟨_, rfl⟩
      obtain ⟨t', ht'⟩ : ∃ t', takS s t i = t' := ⟨_, rfl⟩
      obtain ⟨u', hu'⟩ : ∃ u', takU i = u' := ⟨_, rfl⟩
      obtain ⟨c, hc⟩ : ∃ c, carC t i = c := ⟨_, rfl⟩
      have hE : carA z c = a' ∧ carV s t c = (hdr t' u' : Nat) ∧ (u' = true → t' = t ∧ ∀ j, 0 < j → j < t → carA z (c + j) = a' + j ∧ carV s t (c + j) = 0) ∧ carC t (i + 1) = c + (if u' = true then t' else 1) := by
        rcases hi2 with rfl | ⟨rfl, hts⟩
        · obtain rfl : a' = z := ha.symm
          obtain rfl : t' = t := ht'.symm
          obtain rfl : u' = true := hu'.symm
          obtain rfl : c = 0 := hc.symm
          refine ⟨rfl, rfl, fun _ => ⟨rfl, fun j h0 hj => ⟨by unfold carA; omega, ?_⟩⟩, by simp [carC]⟩
          unfold carV
          rw [Nat.zero_add, if_neg (by omega), if_neg (by omega)]
        · obtain rfl : a' = z + t := ha.symm
          obtain rfl : t' = s - t := ht'.symm
          obtain rfl : u' = false := hu'.symm
          obtain rfl : c = t := hc.symm
          refine ⟨rfl, ?_, (fun h => by cases h), by simp [carC]⟩
          unfold carV
          rw [if_neg (by omega), if_pos rfl]
      have ht2 : 2 ≤ t' ∧ t' ≤ 512 ∧ a' + t' ≤ 512 ∧ c ≤ 512 := by
        rcases hi2 with rfl | ⟨rfl, hts⟩
        · obtain rfl : a' = z := ha.symm
          obtain rfl : t' = t := ht'.symm
          obtain rfl : c = 0 := hc.symm
          omega
        · obtain rfl : a' = z + t := ha.symm
          obtain rfl : t' = s - t := ht'.symm
          obtain rfl : c = t := hc.symm
          omega
      rw [ha, ht', hu'] at hr
      rw [hc] at HO HZ
      have KW := Lib.hid (fun w => bword_any t' u' ⟨ht2.1, ht2.2.1⟩ w)
      obtain ⟨hd, hhd⟩ : ∃ hd, hdr t' u' = hd := ⟨_, rfl⟩
      rw [hhd] at KW hE
      have HE := Lib.hid hE
      have HI := Lib.hid hlt
      have HT2 := Lib.hid ht2
      clear hi hlt ho hz hbr ht hm2 hi2 ha ht' hu' hc hE ht2 hhd
      go_wp2_with fail
      have HQ : obj (wr.alloc (.cells #[.int .i64 a', .int .i64 t', .bool u'] 45)) wr.heap.size = some (.cells #[.int .i64 a', .int .i64 t', .bool u'] 45) := newA _ _
      have HL := Lib.hid (lt_of_obj HQ)
      have HO1 := Lib.hid (HO.out.alloc (.cells #[.int .i64 a', .int .i64 t', .bool u'] 45))
      have HNE : Hid (u7.ownBlock ≠ some wr.heap.size) := Lib.hid (fun e => by have := (HO.out.lt _ e).2; omega)
      have HB2 : Hid (Below w1.heap.size w1 (wr.alloc (.cells #[.int .i64 a', .int .i64 t', .bool u'] 45))) := Lib.hid (HBR.out.alloc HBR.out.size _)
      generalize wr.alloc (.cells #[.int .i64 a', .int .i64 t', .bool u'] 45) = wa at HQ HL HO1 HB2 ⊢
      generalize wr.heap.size = H at HQ HL HNE ⊢
      have HC0 : cellAt (obj wa H) 0 = some (.int .i64 a') := by rw [HQ]; rfl
      have HC1 : cellAt (obj wa H) 1 = some (.int .i64 t') := by rw [HQ]; rfl
      have HC2 : cellAt (obj wa H) 2 = some (.bool u') := by rw [HQ]; rfl
      have hl := HL.out
      have hne := HNE.out
      go_region_held3 (fun w' => cellAt (obj w' H) 0 = some (.int .i64 a') ∧ cellAt (obj w' H) 1 = some (.int .i64 t') ∧ cellAt (obj w' H) 2 = some (.bool u'))
        (first
          | exact ⟨HC0, HC1, HC2⟩
          | (rw [obj_drew, obj_alloc_past wa _ _ hl]; exact ⟨HC0, HC1, HC2⟩)
          | (rw [grow_obj hgrow (by simp; omega) hne, obj_drew, obj_alloc_past wa _ _ hl]; exact ⟨HC0, HC1, HC2⟩))
        (first
          | (go_at_call 90; refine (KW.out _).mono ?_; rintro _ _ ⟨rfl, rfl⟩)
          | (refine step_append_lies _ (by rfl) (.tmp 20) (.tmp 29) 115 (by rfl) w1.heap.size 147 i0 _ 2 16 Tryz.underlying115 hi0 hz0 hz1 hz2 rfl (by decide) u7 c _ (by rfl) (by first | exact (HO1.out.alloc _).drew | exact HO1.out.drew.alloc _)
              ⟨wa.heap.size, 0, none⟩ 1 1 [.int .i64 a', .int .u64 hd] (by rfl) (by rfl) (World.news_of_block (cs := #[.int .i64 a', .int .u64 hd]) (t := 147) (fr := (0, 0)) (heap_alloc_new wa _)) (by simp [Value.oneCell'])
              (by omega) (by have := HT2.out; unfold maxLen; omega) (by have := HT2.out; omega) (by have := HB2.out.size; simp; omega) (wa.heap.size + 1) (by simp) ?_; intro gA capA wA hownA hgrow hatA hltA))
      have HOA : Hid (wA.ownsRow w1.heap.size 147 2 (.slice (some ⟨gA, 0, none⟩) (c + 1) capA) (c + 1) (flatF 2 (edF (carA z) (carV s t)) (c + 1))) := Lib.hid (by rw [flatF_succ, ed_news, HE.out.1, HE.out.2.1]; exact hownA)
      have HQA : obj wA H = some (.cells #[.int .i64 a', .int .i64 t', .bool u'] 45 (0, 0)) := by rw [grow_obj hgrow (by simp; omega) hne, obj_drew, obj_alloc_past wa _ _ hl]; exact HQ
      have HNA : Hid ((Value.slice (some ⟨gA, 0, none⟩) (c + 1) capA).ownBlock ≠ some H) := Lib.hid (fun e => by
        have e : gA = H := by simpa [Value.ownBlock] using e
        exact hatA.elim (fun h => hne (e ▸ h)) (fun h => by omega))
      have HBA : Hid (Below w1.heap.size w1 wA) := Lib.hid (Below.grown ((HB2.out.alloc HB2.out.size _).drew) hgrow (by have := HB2.out.size; simp; omega) (fun j hj => (HO1.out.lt j hj).1))
      have HCA : Hid (c + 1 = 0 → (Value.slice (some ⟨gA, 0, none⟩) (c + 1) capA) = .slice none 0 0) := Lib.hid (fun e => by omega)
      clear HQ hl hne HC0 HC1 HC2 HNE HL hownA hgrow hatA hltA HO1 HB2 HO HZ HBR KW hr
      generalize Value.slice (some ⟨gA, 0, none⟩) (c + 1) capA = sv at HOA HNA HCA ⊢
      go_wp2_with fail
      go_loopw [10, 7] (fun ks sv wi => ∃ kk : Nat, 1 ≤ kk ∧ (u' = true → kk ≤ t') ∧ (u' = false → kk = 1) ∧ ks = .int .i64 kk ∧ wi.ownsRow w1.heap.size 147 2 sv (c + kk) (flatF 2 (edF (carA z) (carV s t)) (c + kk)) ∧ (sv.ownBlock ≠ some H) ∧ (c + kk = 0 → sv = .slice none 0 0) ∧ obj wi H = some (.cells #[.int .i64 a', .int .i64 t', .bool u'] 45 (0, 0)) ∧ Below w1.heap.size w1 wi) (fun ks _ _ => t' + 1 - (intOf ks).toNat)
      case atStart => exact ⟨1, Nat.le_refl _, fun _ => by have := HT2.out; omega, fun _ => rfl, rfl, HOA.out, HNA.out, HCA.out, HQA, HBA.out⟩
      case round =>
        obtain ⟨kk, hk1, hk2, hk3, rfl, ho, hno, hz, hq, hbr⟩ := hrel
        have hql := lt_of_obj hq
        clear HOA HNA HCA HQA HBA
        have HO := Lib.hid ho
        have HNO := Lib.hid hno
        have HZ := Lib.hid hz
        have HBR := Lib.hid hbr
        have HK1 := Lib.hid hk1
        cases u'
        · have hk := hk3 rfl
          subst hk
          have d1 : ((1 : Nat) : Int) < (t' : Int) := by have := HT2.out; omega
          clear ho hno hz hbr hk1 hk2 hk3
          go_wp2_with fail
          exact ⟨⟨i + 1, HI.out, by simp, by rw [HE.out.2.2.2]; exact HO.out, by rw [HE.out.2.2.2]; exact HZ.out, HBR.out⟩, by have := HI.out; simp only [intOf]; omega⟩
        · have hk := hk2 rfl
          by_cases hkt : kk < t'
          · have d1 : (kk : Int) < (t' : Int) := by omega
            have wk : IntKind.i64.wrap ((kk : Int) + 1) = (kk : Int) + 1 := by have := HT2.out; rw [IntKind.wrap_i64]; omega
            obtain ⟨y, hy⟩ : ∃ y, a' + kk = y := ⟨_, rfl⟩
            have wa' : IntKind.i64.wrap ((a' : Int) + (kk : Int)) = (y : Int) := by have := HT2.out; rw [IntKind.wrap_i64]; omega
            have hnew : (List.range 2).map (edF (carA z) (carV s t) (c + kk)) = [.int .i64 y, .int .u64 0] := by
              obtain ⟨_, _, h3, _⟩ := HE.out
              obtain ⟨h4, h5⟩ := h3 rfl
              obtain ⟨h6, h7⟩ := h5 kk (by omega) (by omega)
              rw [ed_news, h6, h7, hy]
            have HKT := Lib.hid (show kk < t' ∧ t' ≤ 512 ∧ c ≤ 512 by have := HT2.out; omega)
            have HN := Lib.hid hnew
            clear ho hno hz hbr hk1 hk2 hk3 hk hkt hy hnew
            go_wp2_with (at_builtin; refine wpList_append_lies _ rfl (.tmp 41) (.tmp 47) 115 rfl w1.heap.size 147 i0 _ 2 16 Tryz.underlying115 hi0 hz0 hz1 hz2 rfl (by decide) _ (c + kk) _ rfl (HO.out.alloc _) ⟨wr.heap.size, 0, none⟩ 1 1 [.int .i64 y, .int .u64 0] rfl rfl (news_new _ _ _) (by simp [Value.oneCell']) (by decide) (by have := HKT.out; unfold maxLen; omega) (by have := HKT.out; omega) (by have := HBR.out.size; simp; omega) (wr.heap.size + 1) (by simp) ?_; intro gA capA wA hownA hgrowA hatA hltA)
            refine ⟨⟨kk + 1, by omega, fun _ => HKT.out.1, (fun h => by cases h), by simp, by rw [← Nat.add_assoc, flatF_succ, HN.out]; exact hownA, fun e => ?_, (fun e => by omega), by rw [grow_obj hgrowA (by simp; omega) HNO.out, obj_alloc_past wr _ _ hql]; exact hq, below_own HBR.out HBR.out.size HO.out hgrowA⟩, by have := HKT.out; simp only [intOf]; omega⟩
            have e : gA = H := by simpa [Value.ownBlock] using e
            exact hatA.elim (fun h => HNO.out (e ▸ h)) (fun h => by omega)
          · have e : kk = t' := by omega
            subst e
            have d1 : ¬ (kk : Int) < (kk : Int) := by omega
            clear ho hno hz hbr hk1 hk2 hk3 hk hkt
            go_wp2_with fail
            exact ⟨⟨i + 1, HI.out, by simp, by rw [HE.out.2.2.2, if_pos rfl]; exact HO.out, by rw [HE.out.2.2.2, if_pos rfl]; exact HZ.out, HBR.out⟩, by have := HI.out; simp only [intOf]; omega⟩
    · have e : i = m := by omega
      subst e
      have hltz : ¬ (i : Int) < (i : Int) := by omega
      clear hi hlt ho hz hbr
      go_wp2
      go_ret
      exact ⟨_, rfl, (own_row HO.out HZ.out).mono HB1.out.size, HB1.out.trans (HBR.out.mono HB1.out.size)⟩
end Go.Proofs.YtphmfaddgpjndaaGreat

/- merge.around, merge.Edit. (Printed by wip/d/genY9.py.) -/
namespace Go.Proofs.YtphmfaddgpjndaaGreat
open Go.ChangeShapes Go.WideShapes Go.RowKit

/-- which blocks are one, where one is given back -/
def fromM (b : Bs) (i : Nat) : Nat := if 0 < i ∧ b.us (i - 1) = false then i - 1 else i
def toM (b : Bs) (i : Nat) : Nat := if i + 1 < b.n ∧ b.us (i + 1) = false then i + 2 else i + 1
theorem fromM_le (b : Bs) (i : Nat) : fromM b i ≤ i ∧ i ≤ fromM b i + 1 := by unfold fromM; split <;> omega
theorem toM_le (b : Bs) {i : Nat} (h : i < b.n) : i + 1 ≤ toM b i ∧ toM b i ≤ b.n ∧ toM b i ≤ i + 2 := by unfold toM; split <;> omega

set_option maxRecDepth 100000 in
set_option maxHeartbeats 6400000 in
theorem around_any {w : World} {B L i : Nat} {b : Bs} {v : Value} (h : RowSl w B v 3 b.n (blkF b)) (hb : b.Ok (L * 8)) (hk : i < b.n) (hu : b.us i = true) :
    Calls Tryz.prog 162 #[v, .int .i64 i] w fun e w' => e = .returned (.tuple #[.int .i64 (fromM b i : Nat), .int .i64 (toM b i : Nat), .bool true]) ∧ Below w.heap.size w w' := by
  have hcn := hb.count
  have KW := mwords_any (v := v) (a := b.at) (s := b.sz) (u := b.us) (n := b.n) h (fun i hi => hb.size hi) (by have := hb.big; rw [sumN_at, hb.sum]; omega)
  rw [sumN_at, hb.sum] at KW
  have KW := Lib.hid KW
  have KM := Lib.hid (fun w1 (hb1 : Below w.heap.size w w1) => cmay_any (h.below hb1) hb)
  obtain ⟨g, off, cap, rfl, _, _, _, hg, _, hcells⟩ := blk_row h (by omega)
  have hc := (hcells i hk).2.2
  rw [hu] at hc
  obtain ⟨N, hN⟩ : ∃ N, L * 8 = N := ⟨_, rfl⟩
  rw [hN] at KW KM
  have HC := Lib.hid hc
  have HG := Lib.hid hg
  have i0' : (0 : Int) ≤ (i : Int) := Int.natCast_nonneg i
  have i1 : (i : Int) < (b.n : Int) := by omega
  have i2 : ¬ (i : Int) < 0 := by omega
  have i3 : ¬ (i : Int) ≥ (b.n : Int) := by omega
  clear h hb hu hc hg hN
  have hP : i = 0 ∨ (0 < i ∧ b.us (i - 1) = true) ∨ (0 < i ∧ b.us (i - 1) = false) := by
    rcases Nat.eq_zero_or_pos i with e | e
    · exact .inl e
    · cases hu : b.us (i - 1)
      · exact .inr (.inr ⟨e, rfl⟩)
      · exact .inr (.inl ⟨e, rfl⟩)
  have hQ : ¬ i + 1 < b.n ∨ (i + 1 < b.n ∧ b.us (i + 1) = true) ∨ (i + 1 < b.n ∧ b.us (i + 1) = false) := by
    by_cases e : i + 1 < b.n
    · cases hu : b.us (i + 1)
      · exact .inr (.inr ⟨e, rfl⟩)
      · exact .inr (.inl ⟨e, rfl⟩)
    · exact .inl e
  rcases hP with h0 | ⟨h0, h1⟩ | ⟨h0, h1⟩
  · rcases hQ with g0 | ⟨g0, g1⟩ | ⟨g0, g1⟩
    · have e1 : fromM b i = i := by unfold fromM; rw [if_neg (by omega)]
      have p1 : ¬ (i : Int) > 0 := by omega
      have p2 : (decide ((0 : Int) < (i : Int))) = false := by simp; omega
      obtain ⟨j, hj⟩ : ∃ j, i + 1 = j := ⟨_, rfl⟩
      have wj : IntKind.i64.wrap ((i : Int) + 1) = (j : Int) := by rw [IntKind.wrap_i64]; omega
      have e2 : toM b i = j := by unfold toM; rw [if_neg (by omega)]; exact hj
      have q1 : ¬ (j : Int) < (b.n : Int) := by omega
      rw [e1, e2]
      clear hcells hk hcn e1 e2 h0 g0 hj
      go_enter Tryz.func162, Tryz.ntmps162
      go_wp2_with fail
      refine KW.out.mono ?_
      rintro _ w1 ⟨rfl, hb1⟩
      go_wp2_with fail
      refine (KM.out w1 hb1).mono ?_
      rintro _ w2 ⟨rfl, hb2⟩
      have hbb := hb1.trans (hb2.mono hb1.size)
      have hc := HC.out
      rw [← obj_below hbb HG.out] at hc
      have HB2 := Lib.hid hbb
      clear hb1 hb2 KW KM hbb
      go_wp2_with fail
      go_ret3
      exact ⟨rfl, HB2.out⟩
    · have e1 : fromM b i = i := by unfold fromM; rw [if_neg (by omega)]
      have p1 : ¬ (i : Int) > 0 := by omega
      have p2 : (decide ((0 : Int) < (i : Int))) = false := by simp; omega
      obtain ⟨j, hj⟩ : ∃ j, i + 1 = j := ⟨_, rfl⟩
      have wj : IntKind.i64.wrap ((i : Int) + 1) = (j : Int) := by rw [IntKind.wrap_i64]; omega
      have hcq := (hcells j (by omega)).2.2
      rw [hj] at g1
      rw [g1] at hcq
      have HCQ := Lib.hid hcq
      have q1 : (j : Int) < (b.n : Int) := by omega
      have q2 : (0 : Int) ≤ (j : Int) := by omega
      have e2 : toM b i = j := by unfold toM; rw [hj, if_neg (by rw [g1]; simp)]
      rw [e1, e2]
      clear hcells hk hcn e1 e2 h0 g0 hj g1 hcq
      go_enter Tryz.func162, Tryz.ntmps162
      go_wp2_with fail
      refine KW.out.mono ?_
      rintro _ w1 ⟨rfl, hb1⟩
      go_wp2_with fail
      refine (KM.out w1 hb1).mono ?_
      rintro _ w2 ⟨rfl, hb2⟩
      have hbb := hb1.trans (hb2.mono hb1.size)
      have hc := HC.out
      rw [← obj_below hbb HG.out] at hc
      have hcq := HCQ.out
      rw [← obj_below hbb HG.out] at hcq
      have HB2 := Lib.hid hbb
      clear hb1 hb2 KW KM hbb
      go_wp2_with fail
      go_ret3
      exact ⟨rfl, HB2.out⟩
    · have e1 : fromM b i = i := by unfold fromM; rw [if_neg (by omega)]
      have p1 : ¬ (i : Int) > 0 := by omega
      have p2 : (decide ((0 : Int) < (i : Int))) = false := by simp; omega
      obtain ⟨j, hj⟩ : ∃ j, i + 1 = j := ⟨_, rfl⟩
      have wj : IntKind.i64.wrap ((i : Int) + 1) = (j : Int) := by rw [IntKind.wrap_i64]; omega
      have hcq := (hcells j (by omega)).2.2
      rw [hj] at g1
      rw [g1] at hcq
      have HCQ := Lib.hid hcq
      have q1 : (j : Int) < (b.n : Int) := by omega
      have q2 : (0 : Int) ≤ (j : Int) := by omega
      have wq : IntKind.i64.wrap ((j : Int) + 1) = ((j + 1 : Nat) : Int) := by rw [IntKind.wrap_i64]; omega
      have e2 : toM b i = j + 1 := by unfold toM; rw [hj, if_pos ⟨by omega, g1⟩]; omega
      generalize j + 1 = j2 at wq e2
      rw [e1, e2]
      clear hcells hk hcn e1 e2 h0 g0 hj g1 hcq
      go_enter Tryz.func162, Tryz.ntmps162
      go_wp2_with fail
      refine KW.out.mono ?_
      rintro _ w1 ⟨rfl, hb1⟩
      go_wp2_with fail
      refine (KM.out w1 hb1).mono ?_
      rintro _ w2 ⟨rfl, hb2⟩
      have hbb := hb1.trans (hb2.mono hb1.size)
      have hc := HC.out
      rw [← obj_below hbb HG.out] at hc
      have hcq := HCQ.out
      rw [← obj_below hbb HG.out] at hcq
      have HB2 := Lib.hid hbb
      clear hb1 hb2 KW KM hbb
      go_wp2_with fail
      go_ret3
      exact ⟨rfl, HB2.out⟩
  · rcases hQ with g0 | ⟨g0, g1⟩ | ⟨g0, g1⟩
    · have e1 : fromM b i = i := by unfold fromM; rw [if_neg (by rw [h1]; simp)]
      obtain ⟨p, hp⟩ : ∃ p, i - 1 = p := ⟨_, rfl⟩
      have hcp := (hcells p (by omega)).2.2
      rw [hp] at h1
      rw [h1] at hcp
      have HCP := Lib.hid hcp
      have p1 : (i : Int) > 0 := by omega
      have p3 : (0 : Int) ≤ (p : Int) := by omega
      have p4 : (p : Int) < (b.n : Int) := by omega
      have wp : IntKind.i64.wrap ((i : Int) - 1) = (p : Int) := by rw [IntKind.wrap_i64]; omega
      obtain ⟨j, hj⟩ : ∃ j, i + 1 = j := ⟨_, rfl⟩
      have wj : IntKind.i64.wrap ((i : Int) + 1) = (j : Int) := by rw [IntKind.wrap_i64]; omega
      have e2 : toM b i = j := by unfold toM; rw [if_neg (by omega)]; exact hj
      have q1 : ¬ (j : Int) < (b.n : Int) := by omega
      rw [e1, e2]
      clear hcells hk hcn e1 e2 h0 g0 hp h1 hcp hj
      go_enter Tryz.func162, Tryz.ntmps162
      go_wp2_with fail
      refine KW.out.mono ?_
      rintro _ w1 ⟨rfl, hb1⟩
      go_wp2_with fail
      refine (KM.out w1 hb1).mono ?_
      rintro _ w2 ⟨rfl, hb2⟩
      have hbb := hb1.trans (hb2.mono hb1.size)
      have hc := HC.out
      rw [← obj_below hbb HG.out] at hc
      have hcp := HCP.out
      rw [← obj_below hbb HG.out] at hcp
      have HB2 := Lib.hid hbb
      clear hb1 hb2 KW KM hbb
      go_wp2_with fail
      go_ret3
      exact ⟨rfl, HB2.out⟩
    · have e1 : fromM b i = i := by unfold fromM; rw [if_neg (by rw [h1]; simp)]
      obtain ⟨p, hp⟩ : ∃ p, i - 1 = p := ⟨_, rfl⟩
      have hcp := (hcells p (by omega)).2.2
      rw [hp] at h1
      rw [h1] at hcp
      have HCP := Lib.hid hcp
      have p1 : (i : Int) > 0 := by omega
      have p3 : (0 : Int) ≤ (p : Int) := by omega
      have p4 : (p : Int) < (b.n : Int) := by omega
      have wp : IntKind.i64.wrap ((i : Int) - 1) = (p : Int) := by rw [IntKind.wrap_i64]; omega
      obtain ⟨j, hj⟩ : ∃ j, i + 1 = j := ⟨_, rfl⟩
      have wj : IntKind.i64.wrap ((i : Int) + 1) = (j : Int) := by rw [IntKind.wrap_i64]; omega
      have hcq := (hcells j (by omega)).2.2
      rw [hj] at g1
      rw [g1] at hcq
      have HCQ := Lib.hid hcq
      have q1 : (j : Int) < (b.n : Int) := by omega
      have q2 : (0 : Int) ≤ (j : Int) := by omega
      have e2 : toM b i = j := by unfold toM; rw [hj, if_neg (by rw [g1]; simp)]
      rw [e1, e2]
      clear hcells hk hcn e1 e2 h0 g0 hp h1 hcp hj g1 hcq
      go_enter Tryz.func162, Tryz.ntmps162
      go_wp2_with fail
      refine KW.out.mono ?_
      rintro _ w1 ⟨rfl, hb1⟩
      go_wp2_with fail
      refine (KM.out w1 hb1).mono ?_
      rintro _ w2 ⟨rfl, hb2⟩
      have hbb := hb1.trans (hb2.mono hb1.size)
      have hc := HC.out
      rw [← obj_below hbb HG.out] at hc
      have hcp := HCP.out
      rw [← obj_below hbb HG.out] at hcp
      have hcq := HCQ.out
      rw [← obj_below hbb HG.out] at hcq
      have HB2 := Lib.hid hbb
      clear hb1 hb2 KW KM hbb
      go_wp2_with fail
      go_ret3
      exact ⟨rfl, HB2.out⟩
    · have e1 : fromM b i = i := by unfold fromM; rw [if_neg (by rw [h1]; simp)]
      obtain ⟨p, hp⟩ : ∃ p, i - 1 = p := ⟨_, rfl⟩
      have hcp := (hcells p (by omega)).2.2
      rw [hp] at h1
      rw [h1] at hcp
      have HCP := Lib.hid hcp
      have p1 : (i : Int) > 0 := by omega
      have p3 : (0 : Int) ≤ (p : Int) := by omega
      have p4 : (p : Int) < (b.n : Int) := by omega
      have wp : IntKind.i64.wrap ((i : Int) - 1) = (p : Int) := by rw [IntKind.wrap_i64]; omega
      obtain ⟨j, hj⟩ : ∃ j, i + 1 = j := ⟨_, rfl⟩
      have wj : IntKind.i64.wrap ((i : Int) + 1) = (j : Int) := by rw [IntKind.wrap_i64]; omega
      have hcq := (hcells j (by omega)).2.2
      rw [hj] at g1
      rw [g1] at hcq
      have HCQ := Lib.hid hcq
      have q1 : (j : Int) < (b.n : Int) := by omega
      have q2 : (0 : Int) ≤ (j : Int) := by omega
      have wq : IntKind.i64.wrap ((j : Int) + 1) = ((j + 1 : Nat) : Int) := by rw [IntKind.wrap_i64]; omega
      have e2 : toM b i = j + 1 := by unfold toM; rw [hj, if_pos ⟨by omega, g1⟩]; omega
      generalize j + 1 = j2 at wq e2
      rw [e1, e2]
      clear hcells hk hcn e1 e2 h0 g0 hp h1 hcp hj g1 hcq
      go_enter Tryz.func162, Tryz.ntmps162
      go_wp2_with fail
      refine KW.out.mono ?_
      rintro _ w1 ⟨rfl, hb1⟩
      go_wp2_with fail
      refine (KM.out w1 hb1).mono ?_
      rintro _ w2 ⟨rfl, hb2⟩
      have hbb := hb1.trans (hb2.mono hb1.size)
      have hc := HC.out
      rw [← obj_below hbb HG.out] at hc
      have hcp := HCP.out
      rw [← obj_below hbb HG.out] at hcp
      have hcq := HCQ.out
      rw [← obj_below hbb HG.out] at hcq
      have HB2 := Lib.hid hbb
      clear hb1 hb2 KW KM hbb
      go_wp2_with fail
      go_ret3
      exact ⟨rfl, HB2.out⟩
  · rcases hQ with g0 | ⟨g0, g1⟩ | ⟨g0, g1⟩
    · have e1 : fromM b i = i - 1 := by unfold fromM; rw [if_pos ⟨h0, h1⟩]
      obtain ⟨p, hp⟩ : ∃ p, i - 1 = p := ⟨_, rfl⟩
      have hcp := (hcells p (by omega)).2.2
      rw [hp] at h1 e1
      rw [h1] at hcp
      have HCP := Lib.hid hcp
      have p1 : (i : Int) > 0 := by omega
      have p3 : (0 : Int) ≤ (p : Int) := by omega
      have p4 : (p : Int) < (b.n : Int) := by omega
      have wp : IntKind.i64.wrap ((i : Int) - 1) = (p : Int) := by rw [IntKind.wrap_i64]; omega
      obtain ⟨j, hj⟩ : ∃ j, i + 1 = j := ⟨_, rfl⟩
      have wj : IntKind.i64.wrap ((i : Int) + 1) = (j : Int) := by rw [IntKind.wrap_i64]; omega
      have e2 : toM b i = j := by unfold toM; rw [if_neg (by omega)]; exact hj
      have q1 : ¬ (j : Int) < (b.n : Int) := by omega
      rw [e1, e2]
      clear hcells hk hcn e1 e2 h0 g0 hp h1 hcp hj
      go_enter Tryz.func162, Tryz.ntmps162
      go_wp2_with fail
      refine KW.out.mono ?_
      rintro _ w1 ⟨rfl, hb1⟩
      go_wp2_with fail
      refine (KM.out w1 hb1).mono ?_
      rintro _ w2 ⟨rfl, hb2⟩
      have hbb := hb1.trans (hb2.mono hb1.size)
      have hc := HC.out
      rw [← obj_below hbb HG.out] at hc
      have hcp := HCP.out
      rw [← obj_below hbb HG.out] at hcp
      have HB2 := Lib.hid hbb
      clear hb1 hb2 KW KM hbb
      go_wp2_with fail
      go_ret3
      exact ⟨rfl, HB2.out⟩
    · have e1 : fromM b i = i - 1 := by unfold fromM; rw [if_pos ⟨h0, h1⟩]
      obtain ⟨p, hp⟩ : ∃ p, i - 1 = p := ⟨_, rfl⟩
      have hcp := (hcells p (by omega)).2.2
      rw [hp] at h1 e1
      rw [h1] at hcp
      have HCP := Lib.hid hcp
      have p1 : (i : Int) > 0 := by omega
      have p3 : (0 : Int) ≤ (p : Int) := by omega
      have p4 : (p : Int) < (b.n : Int) := by omega
      have wp : IntKind.i64.wrap ((i : Int) - 1) = (p : Int) := by rw [IntKind.wrap_i64]; omega
      obtain ⟨j, hj⟩ : ∃ j, i + 1 = j := ⟨_, rfl⟩
      have wj : IntKind.i64.wrap ((i : Int) + 1) = (j : Int) := by rw [IntKind.wrap_i64]; omega
      have hcq := (hcells j (by omega)).2.2
      rw [hj] at g1
      rw [g1] at hcq
      have HCQ := Lib.hid hcq
      have q1 : (j : Int) < (b.n : Int) := by omega
      have q2 : (0 : Int) ≤ (j : Int) := by omega
      have e2 : toM b i = j := by unfold toM; rw [hj, if_neg (by rw [g1]; simp)]
      rw [e1, e2]
      clear hcells hk hcn e1 e2 h0 g0 hp h1 hcp hj g1 hcq
      go_enter Tryz.func162, Tryz.ntmps162
      go_wp2_with fail
      refine KW.out.mono ?_
      rintro _ w1 ⟨rfl, hb1⟩
      go_wp2_with fail
      refine (KM.out w1 hb1).mono ?_
      rintro _ w2 ⟨rfl, hb2⟩
      have hbb := hb1.trans (hb2.mono hb1.size)
      have hc := HC.out
      rw [← obj_below hbb HG.out] at hc
      have hcp := HCP.out
      rw [← obj_below hbb HG.out] at hcp
      have hcq := HCQ.out
      rw [← obj_below hbb HG.out] at hcq
      have HB2 := Lib.hid hbb
      clear hb1 hb2 KW KM hbb
      go_wp2_with fail
      go_ret3
      exact ⟨rfl, HB2.out⟩
    · have e1 : fromM b i = i - 1 := by unfold fromM; rw [if_pos ⟨h0, h1⟩]
      obtain ⟨p, hp⟩ : ∃ p, i - 1 = p := ⟨_, rfl⟩
      have hcp := (hcells p (by omega)).2.2
      rw [hp] at h1 e1
      rw [h1] at hcp
      have HCP := Lib.hid hcp
      have p1 : (i : Int) > 0 := by omega
      have p3 : (0 : Int) ≤ (p : Int) := by omega
      have p4 : (p : Int) < (b.n : Int) := by omega
      have wp : IntKind.i64.wrap ((i : Int) - 1) = (p : Int) := by rw [IntKind.wrap_i64]; omega
      obtain ⟨j, hj⟩ : ∃ j, i + 1 = j := ⟨_, rfl⟩
      have wj : IntKind.i64.wrap ((i : Int) + 1) = (j : Int) := by rw [IntKind.wrap_i64]; omega
      have hcq := (hcells j (by omega)).2.2
      rw [hj] at g1
      rw [g1] at hcq
      have HCQ := Lib.hid hcq
      have q1 : (j : Int) < (b.n : Int) := by omega
      have q2 : (0 : Int) ≤ (j : Int) := by omega
      have wq : IntKind.i64.wrap ((j : Int) + 1) = ((j + 1 : Nat) : Int) := by rw [IntKind.wrap_i64]; omega
      have e2 : toM b i = j + 1 := by unfold toM; rw [hj, if_pos ⟨by omega, g1⟩]; omega
      generalize j + 1 = j2 at wq e2
      rw [e1, e2]
      clear hcells hk hcn e1 e2 h0 g0 hp h1 hcp hj g1 hcq
      go_enter Tryz.func162, Tryz.ntmps162
      go_wp2_with fail
      refine KW.out.mono ?_
      rintro _ w1 ⟨rfl, hb1⟩
      go_wp2_with fail
      refine (KM.out w1 hb1).mono ?_
      rintro _ w2 ⟨rfl, hb2⟩
      have hbb := hb1.trans (hb2.mono hb1.size)
      have hc := HC.out
      rw [← obj_below hbb HG.out] at hc
      have hcp := HCP.out
      rw [← obj_below hbb HG.out] at hcp
      have hcq := HCQ.out
      rw [← obj_below hbb HG.out] at hcq
      have HB2 := Lib.hid hbb
      clear hb1 hb2 KW KM hbb
      go_wp2_with fail
      go_ret3
      exact ⟨rfl, HB2.out⟩
set_option maxRecDepth 100000 in
set_option maxHeartbeats 3200000 in
theorem around_none {w : World} {B L : Nat} {b : Bs} {v : Value} (h : RowSl w B v 3 b.n (blkF b)) (hb : b.Ok (L * 8)) :
    Calls Tryz.prog 162 #[v, .int .i64 (-1)] w fun e w' => e = .returned (.tuple #[.int .i64 0, .int .i64 0, .bool false]) ∧ Below w.heap.size w w' := by
  have KW := mwords_any (v := v) (a := b.at) (s := b.sz) (u := b.us) (n := b.n) h (fun i hi => hb.size hi) (by have := hb.big; rw [sumN_at, hb.sum]; omega)
  rw [sumN_at, hb.sum] at KW
  have KW := Lib.hid KW
  have KM := Lib.hid (fun w1 (hb1 : Below w.heap.size w w1) => cmay_any (h.below hb1) hb)
  obtain ⟨ao, cap, rfl⟩ := h.form
  obtain ⟨N, hN⟩ : ∃ N, L * 8 = N := ⟨_, rfl⟩
  rw [hN] at KW KM
  clear h hb hN
  go_enter Tryz.func162, Tryz.ntmps162
  go_wp2_with fail
  refine KW.out.mono ?_
  rintro _ w1 ⟨rfl, hb1⟩
  go_wp2_with fail
  refine (KM.out w1 hb1).mono ?_
  rintro _ w2 ⟨rfl, hb2⟩
  have HB2 := Lib.hid (hb1.trans (hb2.mono hb1.size))
  clear hb1 hb2 KW KM
  go_wp2_with fail
  go_ret3
  exact ⟨rfl, HB2.out⟩

end Go.Proofs.YtphmfaddgpjndaaGreat
