/- Contracts and laws of their own, used by the claim's theorem: merge.Edit. -/
import Derived.Test.YtphmfaddgpjndaaGreatPk4
import Derived.Shelf.Lay
import Derived.Shelf.LaySoft
import Derived.Shelf.Sort.Plain
import Derived.Ground.Names2Prog
import Derived.Shelf.Slices.CompactI
import Derived.Ground.SlgnProg
import Derived.Shelf.SlicesE.Clone
import Derived.Sort.OwnSortedInts
import Derived.Shelf.SlicesQ.IndexFunc
import Derived.Ground.SlgfProg
import Derived.Laws.CopyOwn
namespace Go.Proofs.YtphmfaddgpjndaaGreat
open Go.ChangeShapes Go.WideShapes Go.RowKit

theorem sz147 (w : World) : szOf Tryz.prog w 147 = 2 := by unfold szOf; rw [Tryz.sizeOf147]
theorem size147 (w : World) : (sizeOf 147).run Tryz.prog w = .ok (szOf Tryz.prog w 147) w := by rw [sz147]; exact Tryz.sizeOf147 w
theorem blk_sub {w : World} {B g off cap n f t c2 : Nat} {a s : Nat → Nat} {u : Nat → Bool} (h : RowSl w B (.slice (some ⟨g, off, none⟩) n cap) 3 n (blkR a s u)) (h1 : f < t) (h2 : t ≤ n) (hc : t - f ≤ c2) (hc2 : c2 ≤ 9223372036854775807) :
    RowSl w B (.slice (some ⟨g, off + f * 3, none⟩) (t - f) c2) 3 (t - f) (blkR (fun i => a (f + i)) (fun i => s (f + i)) (fun i => u (f + i))) := by
  obtain ⟨g', off', cap', e, _, _, hB, hg, ⟨c, ty, hob⟩, hcl⟩ := h.cells (by omega)
  obtain ⟨⟨rfl, rfl⟩, rfl⟩ : (g = g' ∧ off = off') ∧ cap = cap' := by simpa using e
  refine ⟨Or.inr ⟨g, off + f * 3, c2, rfl, by omega, hc, hc2, hB, fun i hi t' ht => ?_⟩, fun _ g2 off2 c' e2 => ?_⟩
  · have := hcl (f + i) (by omega) t' ht
    rw [Nat.add_mul, ← Nat.add_assoc] at this
    exact this
  · obtain ⟨⟨rfl, rfl⟩, rfl⟩ : (g = g2 ∧ off + f * 3 = off2) ∧ c2 = c' := by simpa using e2
    exact ⟨c, ty, hob⟩
theorem sum_sub (b : Bs) (f : Nat) : ∀ k, b.at f + sumN (fun i => b.sz (f + i)) k = b.at (f + k)
  | 0 => rfl
  | k + 1 => by
    have := sum_sub b f k
    show b.at f + (sumN (fun i => b.sz (f + i)) k + b.sz (f + k)) = b.at (f + k) + b.sz (f + k)
    omega
set_option maxRecDepth 100000 in
set_option maxHeartbeats 800000 in
theorem medit_any {w : World} {B L i : Nat} {b : Bs} {v : Value} (h : RowSl w B v 3 b.n (blkF b)) (hb : b.Ok (L * 8)) (hk : i < b.n) (hu : b.us i = true) :
    Calls Tryz.prog 140 #[v, .int .i64 i] w fun e w' => e = .returned (.tuple #[.agg #[.int .i64 (b.at (fromM b i) : Nat), .int .u64 (hdr (b.at (toM b i) - b.at (fromM b i)) false : Nat)], .bool true]) ∧ Below w.heap.size w w' := by
  have hf := fromM_le b i
  have ht := toM_le b hk
  have hcn := hb.count
  have K0 := Lib.hid (around_any (h.alloc (.cells #[.int .i64 0, .int .u64 0] 147)) hb hk hu)
  obtain ⟨g, off, cap, rfl, hcap, hcap2, _, hg, _, hcells⟩ := blk_row h (by omega)
  generalize fromM b i = f at hf K0 ⊢
  generalize toM b i = t at ht K0 ⊢
  have hsub := fun c2 h1 h2 => blk_sub (t := t) (f := f) (c2 := c2) (a := b.at) (s := b.sz) (u := b.us) h (by omega) ht.2.1 h1 h2
  have hs1 := sum_sub b f (t - f)
  rw [show f + (t - f) = t by omega] at hs1
  have hat := hb.at_le ht.2.1
  have hbig := hb.big
  have hs2 := sumN_two (s := fun i => b.sz (f + i)) (t - f) (fun j hj => (hb.size (i := f + j) (by omega)).1)
  have KM := Lib.hid (fun w1 c2 h1 h2 (hb1 : Below w.heap.size w w1) => mwords_any ((hsub c2 h1 h2).below hb1) (fun j hj => hb.size (i := f + j) (by omega)) (by omega))
  have hc := (hcells f (by omega)).1
  have hz : sumN (fun i => b.sz (f + i)) (t - f) = b.at t - b.at f := by omega
  rw [hz] at KM hs2
  obtain ⟨S, hS⟩ : ∃ S, b.at t - b.at f = S := ⟨_, rfl⟩
  rw [hS] at KM hs2 ⊢
  have KW := Lib.hid (fun w => bword_any S false (by omega) w)
  generalize hdr S false = hd at KW ⊢
  generalize b.at f = z at hc ⊢
  have HC := Lib.hid hc
  have HG := Lib.hid hg
  have f0 : (0 : Int) ≤ (f : Int) := Int.natCast_nonneg f
  have f1 : (f : Int) < (b.n : Int) := by omega
  have f2 : (f : Int) ≤ (t : Int) := by omega
  have f3 : (t : Int) ≤ (cap : Int) := by omega
  have f4 : (t : Int) ≤ (b.n : Int) := by omega
  have t0 : (0 : Int) ≤ (t : Int) := Int.natCast_nonneg t
  have HX := Lib.hid (show f < t ∧ t ≤ b.n ∧ b.n ≤ cap ∧ cap ≤ 9223372036854775807 by omega)
  clear h hb hk hu hf ht hcn hcells hsub hs1 hat hbig hs2 hz hS hc hg hcap hcap2
  go_enter Tryz.func140, Tryz.ntmps140
  go_wp2_with fail
  refine K0.out.mono ?_
  rintro _ w1 ⟨rfl, hb1⟩
  have hb2 := ((Below.refl w.heap.size w).alloc (Nat.le_refl _) (.cells #[.int .i64 0, .int .u64 0] 147)).trans (hb1.mono (by simp))
  have hc := HC.out
  rw [← obj_below hb2 HG.out] at hc
  have hq : obj w1 w.heap.size = some (.cells #[.int .i64 0, .int .u64 0] 147 (0, 0)) := keep hb1 (newA w _)
  have hgl : g < w1.heap.size := by have := hb2.size; have := HG.out; omega
  have hql := lt_of_obj hq
  have hne : w.heap.size ≠ g := by have := HG.out; omega
  have HB1 := Lib.hid hb2
  clear hb1 hb2 K0
  go_wp2_with fail
  refine wp_region_more_tail 11 (by kernel_rfl) (by kernel_rfl) (by kernel_rfl) ?_
  simp only [List.take_succ_cons, List.take_zero, List.drop_succ_cons, List.drop_zero]
  have hcf : ¬ cap = f := by have := HX.out; omega
  iterate 10 (go_big_quiet_step ((go_at_call 163; exact more_call (KM.out _ _ (by have := HX.out; omega) (by have := HX.out; omega) (HB1.out.trans ((more_below w1 _).mono HB1.out.size))))))
  go_big_quiet_step ((go_at_call 90; exact more_call ((KW.out _).mono (by rintro _ _ ⟨rfl, rfl⟩; exact ⟨rfl, Below.refl _ _⟩))))
  refine wpQuiet_nil ?_
  intro _ hw'
  obtain ⟨x, hw''⟩ := hw'
  subst hw''
  have hq2 : obj (more w1 x) w.heap.size = some (.cells #[.int .i64 0, .int .u64 0] 147 (0, 0)) := by rw [obj_more _ _ _ hql]; exact hq
  have HB2 : Hid (Below w.heap.size w (more w1 x)) := Lib.hid (HB1.out.trans ((more_below w1 x).mono HB1.out.size))
  have hql2 := lt_of_obj hq2
  change wpList _ _ _ _ _ (more w1 x)
  generalize more w1 x = w2 at hq2 HB2 hql2 ⊢
  clear hc hq hql hgl hne HB1 KM KW
  go_wp2_with fail
  refine ret_row2 rfl rfl (Tryz.isAgg147 _) (size147 _) (c := #[.int .i64 z, .int .u64 hd]) ?_ rfl rfl ⟨rfl, ?_⟩
  · rw [sz147]
    rw [obj_setCell_eq, obj_setCell_eq, hq2]
    rfl
  · exact (HB2.out.setCell (Nat.le_refl _) _).setCell (Nat.le_refl _) _
set_option maxRecDepth 100000 in
set_option maxHeartbeats 800000 in
theorem medit_none {w : World} {B L : Nat} {b : Bs} {v : Value} (h : RowSl w B v 3 b.n (blkF b)) (hb : b.Ok (L * 8)) :
    Calls Tryz.prog 140 #[v, .int .i64 (-1)] w fun e w' => e = .returned (.tuple #[.agg #[.int .i64 0, .int .u64 0], .bool false]) ∧ Below w.heap.size w w' := by
  have K0 := Lib.hid (around_none (h.alloc (.cells #[.int .i64 0, .int .u64 0] 147)) hb)
  obtain ⟨ao, cap, rfl⟩ := h.form
  clear h hb
  go_enter Tryz.func140, Tryz.ntmps140
  go_wp2_with fail
  refine K0.out.mono ?_
  rintro _ w1 ⟨rfl, hb1⟩
  have hb2 := ((Below.refl w.heap.size w).alloc (Nat.le_refl _) (.cells #[.int .i64 0, .int .u64 0] 147)).trans (hb1.mono (by simp))
  have hq : obj w1 w.heap.size = some (.cells #[.int .i64 0, .int .u64 0] 147 (0, 0)) := keep hb1 (newA w _)
  have hql := lt_of_obj hq
  have HB1 := Lib.hid hb2
  clear hb1 hb2 K0
  go_wp2_with fail
  refine ret_row2 rfl rfl (Tryz.isAgg147 _) (size147 _) (c := #[.int .i64 0, .int .u64 0]) ?_ rfl rfl ⟨rfl, ?_⟩
  · rw [sz147]
    rw [obj_setCell_eq, obj_setCell_eq, hq]
    rfl
  · exact (HB1.out.setCell (Nat.le_refl _) _).setCell (Nat.le_refl _) _
end Go.Proofs.YtphmfaddgpjndaaGreat

/- span.within, span.Read. -/
namespace Go.Proofs.YtphmfaddgpjndaaGreat
open Go.ChangeShapes Go.WideShapes Go.RowKit

set_option maxHeartbeats 800000 in
theorem within_any {N off n : Nat} {ao : Option Addr} {cap : Nat} (h1 : off + n ≤ N * 8) (h2 : n ≤ 448) (h3 : N ≤ 512) (w : World) :
    Calls Tryz.prog 165 #[.slice ao N cap, .int .i64 off, .int .i64 n] w fun e w' => e = .returned (.bool true) ∧ w = w' := by
  have d1 : (off : Int) ≥ 0 := by omega
  have d2 : (n : Int) ≥ 0 := by omega
  have d3 : (n : Int) ≤ 448 := by omega
  obtain ⟨M, hM⟩ : ∃ M, N * 8 = M := ⟨_, rfl⟩
  have w1 : IntKind.i64.wrap ((N : Int) * 8) = (M : Int) := by rw [IntKind.wrap_i64]; omega
  have w2 : IntKind.i64.wrap ((M : Int) - (n : Int)) = (M : Int) - (n : Int) := by rw [IntKind.wrap_i64]; omega
  have d4 : (off : Int) ≤ (M : Int) - (n : Int) := by omega
  clear h1 h2 h3 hM
  go_enter Tryz.func165, Tryz.ntmps165
  go_wp2
  go_ret
  exact ⟨rfl, rfl⟩
/-- a byte of words -/
def byteW (W : Nat → Int) (i : Nat) : Int := W (i / 8) / (2 : Int) ^ (i % 8 * 8) % 256
set_option maxRecDepth 100000 in
set_option maxHeartbeats 1600000 in
theorem read_any {w : World} {B N off n : Nat} {v : Value} {W : Nat → Int} (h : SlOf w B v 1 N (wordF W)) (hN : 8 ≤ N ∧ N ≤ 512) (h1 : off + n ≤ N * 8) (h2 : n ≤ 448) (hW : ∀ i, i < N → 0 ≤ W i ∧ W i < 18446744073709551616) :
    Calls Tryz.prog 142 #[v, .int .i64 off, .int .i64 n] w fun e w' => ∃ v', e = .returned (.tuple #[v', .bool true]) ∧ SlOf w' w.heap.size v' 1 n (fun i _ => .int .u8 (byteW W (off + i))) ∧ Below w.heap.size w w' := by
  obtain ⟨i0, hi0, hz0, hz1, hz2⟩ := info_parts' info5
  obtain ⟨g, off0, cap, rfl, _, _, _, hcell⟩ := h.cells (by omega)
  have K0 := Lib.hid (fun w => within_any (ao := some ⟨g, off0, none⟩) (cap := cap) h1 h2 hN.2 w)
  have HCELL := Lib.hid hcell
  have HW := Lib.hid hW
  have HX := Lib.hid (And.intro hN (And.intro h1 h2))
  obtain ⟨E, hE⟩ : ∃ E, off + n = E := ⟨_, rfl⟩
  have wE : IntKind.i64.wrap ((off : Int) + (n : Int)) = (E : Int) := by rw [IntKind.wrap_i64]; omega
  have HE := Lib.hid hE
  clear h hcell hW hE hN h1 h2
  go_enter Tryz.func142, Tryz.ntmps142
  go_wp2_with fail
  refine (K0.out _).mono ?_
  rintro _ _ ⟨rfl, rfl⟩
  go_wp2_with fail
  go_loopw [9, 8] (fun ix s wr => ∃ i : Nat, i ≤ n ∧ ix = .int .i64 (off + i : Nat) ∧ wr.ownsRow w.heap.size 5 1 s i (flatF 1 (fun i _ => .int .u8 (byteW W (off + i))) i) ∧ (i = 0 → s = .slice none 0 0) ∧ Below w.heap.size w wr) (fun ix _ _ => off + n - (intOf ix).toNat)
  case atStart => exact ⟨0, Nat.zero_le _, rfl, World.ownsRow_nil _ _ _ _, fun _ => rfl, Below.refl _ _⟩
  case round =>
    obtain ⟨i, hi, rfl, ho, hz, hbr⟩ := hrel
    have HO := Lib.hid ho
    have HZ := Lib.hid hz
    have HBR := Lib.hid hbr
    obtain ⟨p, hp⟩ : ∃ p, off + i = p := ⟨_, rfl⟩
    have HP := Lib.hid hp
    rw [hp]
    by_cases hlt : i < n
    · have hx := HX.out
      have hE := HE.out
      have d1 : (p : Int) < (E : Int) := by omega
      have wp1 : IntKind.i64.wrap ((p : Int) + 1) = ((p + 1 : Nat) : Int) := by rw [IntKind.wrap_i64]; omega
      obtain ⟨q, hq⟩ : ∃ q, p / 8 = q := ⟨_, rfl⟩
      obtain ⟨r, hr⟩ : ∃ r, p % 8 = r := ⟨_, rfl⟩
      obtain ⟨r8, hr8⟩ : ∃ r8, r * 8 = r8 := ⟨_, rfl⟩
      have eq1 : (p : Int) / 8 = (q : Int) := by omega
      have eq2 : (p : Int).tdiv 8 = (q : Int) := by have := tdiv_nat p 8; rw [hq] at this; exact this
      have er1 : (p : Int) % 8 = (r : Int) := by omega
      have er2 : (p : Int).tmod 8 = (r : Int) := by have := tmod_nat p 8; rw [hr] at this; exact this
      have wq : IntKind.i64.wrap (q : Int) = (q : Int) := by rw [IntKind.wrap_i64]; omega
      have wr' : IntKind.i64.wrap (r : Int) = (r : Int) := by rw [IntKind.wrap_i64]; omega
      have wr8 : IntKind.i64.wrap ((r : Int) * 8) = (r8 : Int) := by rw [IntKind.wrap_i64]; omega
      have q0 : (0 : Int) ≤ (q : Int) := by omega
      have qN : (q : Int) < (N : Int) := by omega
      have r0 : ¬ (r8 : Int) < 0 := by omega
      have r1 : (r8 : Int) < 64 := by omega
      have hc := HCELL.out q (by omega) 0 (by decide)
      rw [Nat.mul_one, Nat.add_zero] at hc
      have hc2 : cellAt (obj w g) (off0 + q) = some (.int .u64 (W q)) := hc
      have hc3 := (below_kept hbr).cell hc2 (by simp)
      have hw := HW.out q (by omega)
      have hby : byteW W (off + i) = W q / (2 : Int) ^ r8 % 256 := by unfold byteW; rw [hp, hq, hr, hr8]
      generalize W q = x at hc3 hw hby
      have HBY := Lib.hid hby
      have HI := Lib.hid hlt
      clear hi hlt ho hz hbr hx hE hp hq hr hr8 hc hc2 hby
      go_wp2_with (at_builtin; refine wpList_append_lies _ rfl (.tmp 23) (.tmp 34) 30 rfl w.heap.size 5 i0 _ 1 1 Tryz.underlying30 hi0 hz0 hz1 hz2 rfl (by decide) _ i _ rfl (HO.out.alloc _) ⟨wr.heap.size, 0, none⟩ 1 1 [.int .u8 (x / (2 : Int) ^ r8 % 256)] rfl rfl (news_new _ _ _) (by simp [Value.oneCell']) (by decide) (by have := HX.out; have := HI.out; unfold maxLen; omega) (by have := HX.out; have := HI.out; omega) (by have := HBR.out.size; simp; omega) (wr.heap.size + 1) (by simp) ?_; intro gA capA wA hownA hgrowA hatA hltA)
      exact ⟨⟨i + 1, HI.out, by rw [← Nat.add_assoc, HP.out]; simp, by rw [flatF_succ]; show wA.ownsRow _ _ _ _ _ (_ ++ [Value.int .u8 (byteW W (off + i))]); rw [HBY.out]; exact hownA, fun e => (by omega), below_own HBR.out HBR.out.size HO.out hgrowA⟩, by have := HI.out; have := HP.out; simp only [intOf]; omega⟩
    · have hE := HE.out
      have d1 : ¬ (p : Int) < (E : Int) := by omega
      have e : i = n := by omega
      subst e
      clear hi hlt ho hz hbr hp hE
      go_wp2
      go_ret2
      exact ⟨_, rfl, own_sl HO.out HZ.out, HBR.out⟩
end Go.Proofs.YtphmfaddgpjndaaGreat

/- slices.Sort, slices.Compact at ints; slices.Clone at words: off the shelf. -/
namespace Go.Proofs.YtphmfaddgpjndaaGreat
open Go.ChangeShapes Go.WideShapes Go.RowKit
open Go.Shelf
shelf_lay Lays.n189 Nm 189 at Tryz as Tryz.lays189
shelf_lay Lays2.n20 Nm2 20 at Tryz as Tryz.laysNm220
shelf_lay_g SlLaysE0.n41 Slgn 41 at Tryz 157 as Tryz.laysSlE041
theorem sort_sorted (blk off cap : Nat) (zs : List Int) (w : World) (hH : Go.Sort.Holds (Value.int .i64) w blk off zs.toArray) (hblk : blk < w.heap.size) (hsz : zs.length < 4611686018427387904) (hs : zs.Pairwise fun x y => x ≤ y) :
    Calls Tryz.prog 158 #[.slice (some ⟨blk, off, none⟩) zs.length cap] w fun e w' => e = .returned (.tuple #[]) ∧ ∃ n os, w' = Go.Sort.grow (Go.Sort.putRow (Value.int .i64) (Go.Sort.ahead w n) blk off zs.toArray) os := by
  refine (Any.slices_Sort_int Tryz.lays189 blk off cap zs w hH hblk hsz).mono ?_
  rintro e w' ⟨he, n, os, hw⟩
  have : (zs.mergeSort fun x y => decide (x ≤ y)) = zs := List.mergeSort_of_pairwise (hs.imp (by simp))
  rw [this] at hw
  exact ⟨he, n, os, hw⟩
end Go.Proofs.YtphmfaddgpjndaaGreat

/- span.Lines. -/
namespace Go.Proofs.YtphmfaddgpjndaaGreat
open Go.ChangeShapes Go.WideShapes Go.RowKit

/-- how many lines, from the line of one word on -/
def lineN (a m : Nat) : Nat := if m = 0 then 0 else (a + m - 1) / 8 - a / 8 + 1
def linesL (a m : Nat) : List Int := (List.range m).map fun j => (((a + j) / 8 : Nat) : Int)
def lineL (a n : Nat) : List Int := (List.range n).map fun j => ((a / 8 + j : Nat) : Int)
theorem compact_step (d : Array Int) (k : Nat) : Lib.compactUpTo d (k + 1) = Lib.compactUpTo d k ++ (if Lib.keeps d k = true then [d[k]!] else []) := by
  unfold Lib.compactUpTo
  rw [List.range_succ, List.filter_append, List.map_append]
  congr 1
  by_cases h : Lib.keeps d k = true <;> simp [h]
theorem compact_lines (a m : Nat) : Lib.compact (linesL a m) = lineL a (lineN a m) := by
  have hl : (linesL a m).length = m := by simp [linesL]
  have hd : ∀ j, j < m → (linesL a m).toArray[j]! = (((a + j) / 8 : Nat) : Int) := fun j hj => by simp [linesL, hj]
  unfold Lib.compact
  rw [hl]
  have H : ∀ k, k ≤ m → Lib.compactUpTo (linesL a m).toArray k = lineL a (lineN a k) := by
    intro k
    induction k with
    | zero => intro _; rfl
    | succ k ih =>
      intro hk
      rw [compact_step, ih (by omega)]
      by_cases h0 : k = 0
      · subst h0
        have : Lib.keeps (linesL a m).toArray 0 = true := by simp [Lib.keeps]
        rw [if_pos this, hd 0 (by omega)]
        simp [lineL, lineN]
      · by_cases he : (a + k) / 8 = (a + (k - 1)) / 8
        · have : ¬ Lib.keeps (linesL a m).toArray k = true := by
            simp only [Lib.keeps, decide_eq_true_eq]
            rw [hd k (by omega), hd (k - 1) (by omega), he]
            simp [h0]
          rw [if_neg this, List.append_nil]
          congr 1
          unfold lineN
          rw [if_neg h0, if_neg (by omega)]
          omega
        · have : Lib.keeps (linesL a m).toArray k = true := by
            simp only [Lib.keeps, decide_eq_true_eq]
            rw [hd k (by omega), hd (k - 1) (by omega)]
            right; omega
          rw [if_pos this, hd k (by omega)]
          have e1 : lineN a (k + 1) = lineN a k + 1 := by unfold lineN; rw [if_neg h0, if_neg (by omega)]; omega
          have e2 : (a + k) / 8 = a / 8 + lineN a k := by unfold lineN; rw [if_neg h0]; omega
          rw [e1, e2]
          unfold lineL
          rw [List.range_succ, List.map_append]
          rfl
  exact H m (Nat.le_refl _)
theorem linesL_sorted (a m : Nat) : (linesL a m).Pairwise fun x y => x ≤ y := by
  unfold linesL
  rw [List.pairwise_map]
  refine List.Pairwise.imp ?_ (List.pairwise_lt_range)
  intro x y h
  omega
theorem linesL_flat (a m : Nat) : (linesL a m).map (Value.int .i64) = flatF 1 (natF fun j => (a + j) / 8) m := by
  induction m with
  | zero => rfl
  | succ m ih =>
    rw [flatF_succ, ← ih]
    unfold linesL
    rw [List.range_succ, List.map_append, List.map_append]
    rfl
theorem owned_parts {w : World} {base g cap n : Nat} {e : TypeId} {xs : List Value} (h : w.ownsRow base e 1 (.slice (some ⟨g, 0, none⟩) n cap) n xs) : ∃ cur, w.heap[g]? = some (.cells cur e (0, 0)) ∧ n ≤ cap ∧ cap ≤ maxLen ∧ cur.size = cap * 1 ∧ cur.toList.take n = xs := by
  rcases h.2 with ⟨e, _⟩ | ⟨g2, cap2, cur, hv, hb, hg, h1, h2, h3, h4⟩
  · cases e
  · obtain ⟨rfl, rfl⟩ : g = g2 ∧ cap = cap2 := by simpa using hv
    rw [Nat.mul_one] at h4
    exact ⟨cur, hg, h1, h2, h3, h4⟩
theorem lineN_le (a m : Nat) : lineN a m ≤ m := by unfold lineN; split <;> omega
theorem lineL_get (a n j : Nat) (hj : j < n) (r : List Int) : ((lineL a n ++ r).map (Value.int .i64))[j]? = some (natF (fun j => a / 8 + j) j 0) := by
  rw [List.getElem?_map, List.getElem?_append_left (by simpa [lineL] using hj)]
  simp [lineL, hj, natF, intF]
theorem ed_row {w : World} {B n : Nat} {v : Value} {a : Nat → Nat} {V : Nat → Int} (h : RowSl w B v 2 n (edF a V)) (h0 : 0 < n) : ∃ g off cap, v = .slice (some ⟨g, off, none⟩) n cap ∧ n ≤ cap ∧ cap ≤ 9223372036854775807 ∧ B ≤ g ∧ g < w.heap.size ∧
    (∀ i, i < n → rowAt (obj w g) (off + i * 2) 2 = some #[.int .i64 (a i), .int .u64 (V i)]) ∧ (∀ i, i < n → cellAt (obj w g) (off + i * 2) = some (.int .i64 (a i)) ∧ cellAt (obj w g) (off + i * 2 + 1) = some (.int .u64 (V i))) := by
  obtain ⟨g, off, cap, e, h1, h2, h3, h4, hob, h5⟩ := h.cells h0
  refine ⟨g, off, cap, e, h1, h2, h3, h4, fun i hi => ?_, fun i hi => ⟨h5 i hi 0 (by decide), h5 i hi 1 (by decide)⟩⟩
  refine rowAt_of rfl (by decide) (fun t ht => ?_) hob
  rw [h5 i hi t ht]
  have : t = 0 ∨ t = 1 := by omega
  rcases this with rfl | rfl <;> rfl

set_option maxRecDepth 100000 in
set_option maxHeartbeats 1600000 in
theorem lines_any {w : World} {B m a0 : Nat} {v : Value} {a : Nat → Nat} {V : Nat → Int} (h : RowSl w B v 2 m (edF a V)) (ha : ∀ j, j < m → a j = a0 + j) (hm : 1 ≤ m) (hb : a0 + m ≤ 512) :
    Calls Tryz.prog 137 #[v] w fun e w' => ∃ v', e = .returned v' ∧ RowSl w' w.heap.size v' 1 (lineN a0 m) (natF fun j => a0 / 8 + j) ∧ Below w.heap.size w w' := by
  obtain ⟨i0, hi0, hz0, hz1, hz2⟩ := info_parts' info3
  obtain ⟨g, off, cap, rfl, _, _, _, hg, hrow, hcells⟩ := ed_row h (by omega)
  have HROW := Lib.hid hrow
  have HG := Lib.hid hg
  have HA := Lib.hid ha
  have HX := Lib.hid (And.intro hm hb)
  clear h hrow hcells hg ha hm hb
  go_enter Tryz.func137, Tryz.ntmps137
  go_wp2_with fail
  go_loopw [8, 3] (fun ix s wr => ∃ i : Nat, i ≤ m ∧ ix = .int .i64 i ∧ wr.ownsRow w.heap.size 3 1 s i (flatF 1 (natF fun j => (a0 + j) / 8) i) ∧ Below w.heap.size w wr) (fun ix _ _ => m - (intOf ix).toNat)
  case atStart => exact ⟨0, Nat.zero_le _, rfl, World.ownsRow_nil _ _ _ _, Below.refl _ _⟩
  case round =>
    obtain ⟨i, hi, rfl, ho, hbr⟩ := hrel
    have HO := Lib.hid ho
    have HBR := Lib.hid hbr
    by_cases hlt : i < m
    · have hltz : (i : Int) < (m : Int) := by omega
      have i0' : (0 : Int) ≤ (i : Int) := Int.natCast_nonneg i
      have hx := HX.out
      have wi : IntKind.i64.wrap ((i : Int) + 1) = (i : Int) + 1 := by rw [IntKind.wrap_i64]; omega
      have hr := HROW.out i hlt
      rw [← obj_below hbr HG.out, HA.out i hlt] at hr
      obtain ⟨p, hp⟩ : ∃ p, a0 + i = p := ⟨_, rfl⟩
      obtain ⟨q, hq⟩ : ∃ q, p / 8 = q := ⟨_, rfl⟩
      rw [hp] at hr
      have eq1 : (p : Int) / 8 = (q : Int) := by omega
      have eq2 : (p : Int).tdiv 8 = (q : Int) := by have := tdiv_nat p 8; rw [hq] at this; exact this
      have wq : IntKind.i64.wrap (q : Int) = (q : Int) := by rw [IntKind.wrap_i64]; omega
      have p0 : (p : Int) ≥ 0 := by omega
      generalize V i = x at hr
      have HI := Lib.hid hlt
      have HN : Hid (natF (fun j => (a0 + j) / 8) i 0 = .int .i64 (q : Int)) := Lib.hid (by show Value.int .i64 (((a0 + i) / 8 : Nat) : Int) = _; rw [hp, hq])
      clear hi hlt ho hbr hx hp hq
      go_wp2_with (at_builtin; refine wpList_append_lies _ rfl (.tmp 15) (.tmp 19) 53 rfl w.heap.size 3 i0 _ 1 8 Tryz.underlying53 hi0 hz0 hz1 hz2 rfl (by decide) _ i _ rfl ((HO.out.alloc _).alloc _) ⟨wr.heap.size + 1, 0, none⟩ 1 1 [.int .i64 q] rfl rfl (news_new' _ _ _ _ (by simp)) (by simp [Value.oneCell']) (by decide) (by have := HX.out; have := HI.out; unfold maxLen; omega) (by have := HX.out; have := HI.out; omega) (by have := HBR.out.size; simp; omega) (wr.heap.size + 1 + 1) (by simp) ?_; intro gA capA wA hownA hgrowA hatA hltA)
      exact ⟨⟨i + 1, HI.out, by simp, by rw [flatF_succ]; show wA.ownsRow _ _ _ _ _ (_ ++ [natF (fun j => (a0 + j) / 8) i 0]); rw [HN.out]; exact hownA, below_own (HBR.out.alloc HBR.out.size _) (by have := HBR.out.size; simp; omega) (HO.out.alloc _) hgrowA⟩, by have := HI.out; simp only [intOf]; omega⟩
    · have e : i = m := by omega
      subst e
      have hltz : ¬ (i : Int) < (i : Int) := by omega
      have hx := HX.out
      rw [← linesL_flat] at ho
      obtain ⟨g1, cap1, cur1, rfl, hb1, hg1, hn1, hc1, hs1, ht1⟩ : ∃ g cap cur, _ = Value.slice (some ⟨g, 0, none⟩) i cap ∧ w.heap.size ≤ g ∧ wr.heap[g]? = some (.cells cur 3 (0, 0)) ∧ i ≤ cap ∧ cap ≤ maxLen ∧ cur.size = cap * 1 ∧ cur.toList.take (i * 1) = (linesL a0 i).map (Value.int .i64) := by
        rcases ho.2 with ⟨_, e⟩ | ⟨g, cap, cur, hv, hb, hg, rest⟩
        · omega
        · exact ⟨g, cap, cur, hv, hb, hg, rest⟩
      have hll : (linesL a0 i).length = i := by simp [linesL]
      rw [Nat.mul_one] at ht1
      have KS := sort_sorted g1 0 cap1 (linesL a0 i) wr (Go.holds_of_blockI hg1 (by rw [hll]; exact ht1)) (lt_of_obj hg1) (by rw [hll]; omega) (linesL_sorted a0 i)
      rw [hll] at KS
      have KS := Lib.hid KS
      have HG1 := Lib.hid (And.intro hb1 (And.intro hg1 (And.intro hn1 (And.intro hc1 hs1))))
      clear hi hlt ho hx hb1 hg1 hn1 hc1 hs1 ht1
      go_wp2_with fail
      refine KS.out.mono ?_
      rintro _ w2 ⟨rfl, n2, os2, hw2⟩
      obtain ⟨hb1, hg1, hn1, hc1, hs1⟩ := HG1.out
      have ho2 := Go.ownsRow_sortedI (w := wr) (n := n2) (os := os2) (ss := linesL a0 i) (ts := linesL a0 i) rfl hb1 hg1 (by rw [hll]; exact hn1) hc1 hs1
      have hgr2 := Go.grownBy_sortedI (w := wr) (g := g1) (n := n2) (os := os2) (linesL a0 i).toArray
      rw [← hw2, hll] at ho2
      rw [← hw2] at hgr2
      have hbr2 := hbr.grown hgr2 hbr.size (fun j hj => by have h1 : g1 = j := (by simpa using hj); omega)
      clear hw2 hgr2 HG1 KS hg1 hs1
      obtain ⟨cur2, hg2, _, _, hs2, ht2⟩ := owned_parts ho2
      have KC : Calls Tryz.prog 159 #[.slice (some ⟨g1, 0, none⟩) (linesL a0 i).length cap1] w2 _ := Any.slices_Compact_int Tryz.laysNm220 g1 0 cap1 (linesL a0 i) w2 (Go.holds_of_blockI hg2 (by rw [hll]; exact ht2)) (by rw [hll]; have := HX.out; omega) (by rw [hll]; exact hn1)
      rw [compact_lines, hll] at KC
      have hlr : (lineL a0 (lineN a0 i)).length = lineN a0 i := by simp [lineL]
      rw [hlr] at KC
      have KC := Lib.hid KC
      have HBR2 := Lib.hid hbr2
      have HG2 := Lib.hid (And.intro hb1 (And.intro hg2 (And.intro hn1 (And.intro hc1 hs2))))
      clear hbr2 hb1 hg2 hn1 hc1 hs2 ht2 ho2 hbr HBR HO
      go_wp2_with fail
      refine KC.out.mono ?_
      rintro _ w3 ⟨rfl, q, hw3⟩
      obtain ⟨hb1, hg2, hn1, hc1, hs2⟩ := HG2.out
      have hle := lineN_le a0 i
      have hlen : (lineL a0 (lineN a0 i) ++ List.replicate (i - lineN a0 i) (0 : Int)).length = (linesL a0 i).length := by rw [List.length_append, hlr, List.length_replicate, hll]; omega
      have ho3 := Go.ownsRow_sortedI (w := w2) (n := q) (os := #[]) (ss := linesL a0 i) (ts := lineL a0 (lineN a0 i) ++ List.replicate (i - lineN a0 i) (0 : Int)) hlen hb1 hg2 (by rw [hll]; exact hn1) hc1 hs2
      have hgr3 := Go.grownBy_sortedI (w := w2) (g := g1) (n := q) (os := #[]) (lineL a0 (lineN a0 i) ++ List.replicate (i - lineN a0 i) (0 : Int)).toArray
      rw [Go.Sort.grow_empty, ← hw3, hll] at ho3
      rw [Go.Sort.grow_empty, ← hw3] at hgr3
      have hbr3 := HBR2.out.grown hgr3 HBR2.out.size (fun j hj => by have h1 : g1 = j := (by simpa using hj); omega)
      obtain ⟨cur3, hg3, _, _, hs3, ht3⟩ := owned_parts ho3
      have hR : RowSl w3 w.heap.size (.slice (some ⟨g1, 0, none⟩) (lineN a0 i) cap1) 1 (lineN a0 i) (natF fun j => a0 / 8 + j) := by
        have hx := HX.out
        refine ⟨Or.inr ⟨g1, 0, cap1, rfl, by unfold lineN; rw [if_neg (by omega)]; omega, by omega, by unfold maxLen at hc1; omega, hb1, fun j hj t ht => ?_⟩, fun _ g off c e => ?_⟩
        · obtain rfl : t = 0 := by omega
          rw [Nat.zero_add, Nat.mul_one, Nat.add_zero]
          have h1 := ho3.cellAt j (by omega)
          rw [cell?_heap, lineL_get a0 _ j hj] at h1
          exact h1
        · obtain ⟨⟨rfl, rfl⟩, rfl⟩ : (g1 = g ∧ 0 = off) ∧ cap1 = c := by simpa using e
          exact ⟨cur3, _, hg3⟩
      have HR := Lib.hid hR
      have HB3 := Lib.hid hbr3
      clear hb1 hg2 hn1 hc1 hs2 hle hlen ho3 hgr3 hbr3 hg3 hs3 ht3 hR hw3 KC HG2
      go_wp2_with fail
      go_ret
      exact ⟨_, rfl, HR.out, HB3.out⟩
end Go.Proofs.YtphmfaddgpjndaaGreat

/- slices.Clone at words; span.Apply. -/
namespace Go.Proofs.YtphmfaddgpjndaaGreat
open Go.ChangeShapes Go.WideShapes Go.RowKit

theorem flat_words_get (W : Nat → Int) (N j : Nat) {u : Value} (h : (flatF 1 (wordF W) N)[j]? = some u) : j < N ∧ u = .int .u64 (W j) := by
  by_cases hj : j < N
  · have h1 := flatF_get 1 (wordF W) N j 0 hj (by decide)
    rw [Nat.mul_one, Nat.add_zero] at h1
    rw [h1] at h
    exact ⟨hj, (Option.some.inj h).symm⟩
  · rw [List.getElem?_eq_none (by rw [flatF_len]; omega)] at h
    cases h
theorem flat_words_one (W : Nat → Int) (N : Nat) : ∀ u ∈ flatF 1 (wordF W) N, u.oneCell' = true := by
  intro u hu
  obtain ⟨j, hj⟩ := List.getElem?_of_mem hu
  obtain ⟨_, rfl⟩ := flat_words_get W N j hj
  rfl
theorem flat_words_set (W : Nat → Int) (N p : Nat) (x : Int) : (flatF 1 (wordF W) N).set p (.int .u64 x) = flatF 1 (wordF (updF W p x)) N := by
  apply List.ext_getElem?
  intro t
  rw [List.getElem?_set]
  by_cases ht : t < N
  · have h1 := flatF_get 1 (wordF (updF W p x)) N t 0 ht (by decide)
    have h2 := flatF_get 1 (wordF W) N t 0 ht (by decide)
    rw [Nat.mul_one, Nat.add_zero] at h1 h2
    rw [h1]
    by_cases e : p = t
    · subst e; rw [if_pos rfl, if_pos (by rw [flatF_len]; omega)]; show _ = some (Value.int .u64 (updF W p x p)); rw [updF_same]
    · rw [if_neg e, h2]; show some (Value.int .u64 (W t)) = some (Value.int .u64 (updF W p x t)); rw [updF_ne _ _ _ (Ne.symm e)]
  · have h1 : (flatF 1 (wordF (updF W p x)) N)[t]? = none := List.getElem?_eq_none (by rw [flatF_len]; omega)
    have h2 : (flatF 1 (wordF W) N)[t]? = none := List.getElem?_eq_none (by rw [flatF_len]; omega)
    rw [h1, h2]
    split
    · rw [if_neg (by rw [flatF_len]; omega)]
    · rfl
theorem size25 (w : World) : (sizeOf 25).run Tryz.prog w = .ok 1 w := Tryz.sizeOf25 w
theorem wclone_any {w : World} {B N : Nat} {v : Value} {W : Nat → Int} (h : SlOf w B v 1 N (wordF W)) (h0 : 0 < N) (h1 : N ≤ 512) :
    Calls Tryz.prog 157 #[v] w fun e w' => ∃ v', e = .returned v' ∧ w'.ownsRow w.heap.size 25 1 v' N (flatF 1 (wordF W) N) ∧ Below w.heap.size w w' := by
  obtain ⟨i0, hi0, hz0, hz1, hz2⟩ := info_parts' info25
  obtain ⟨g, off, cap, rfl, _, _, _, hcell⟩ := h.cells h0
  refine Calls.mono (R := _) (AnyE.slices_Clone Tryz.laysSlE041 i0 _ 1 8 hi0 hz0 hz1 hz2 rfl (by decide) size25 g off N cap (flatF 1 (wordF W) N) w (by rw [flatF_len]) (by unfold maxLen; omega) (by omega) ?_ (flat_words_one W N)) ?_
  · intro j u hu
    obtain ⟨hj, rfl⟩ := flat_words_get W N j hu
    rw [cell?_heap]
    have := hcell j hj 0 (by decide)
    rw [Nat.mul_one, Nat.add_zero] at this
    exact this
  · rintro e w' ⟨v', he, ho, _, hb⟩
    exact ⟨v', he, ho, hb⟩
/-- words in which edits side by side are done -/
def appl (a0 : Nat) (V W : Nat → Int) (m : Nat) : Nat → Int := fun t => if a0 ≤ t ∧ t < a0 + m then V (t - a0) else W t
theorem appl_succ (a0 : Nat) (V W : Nat → Int) (i t : Nat) : updF (appl a0 V W i) (a0 + i) (V i) t = appl a0 V W (i + 1) t := by
  by_cases e : t = a0 + i
  · subst e; rw [updF_same]; unfold appl; rw [if_pos (by omega)]; congr 1; omega
  · rw [updF_ne _ _ _ e]
    unfold appl
    by_cases h : a0 ≤ t ∧ t < a0 + i
    · rw [if_pos h, if_pos (by omega)]
    · rw [if_neg h, if_neg (by omega)]

set_option maxRecDepth 100000 in
set_option maxHeartbeats 1600000 in
theorem apply_any {w : World} {B B2 N m a0 : Nat} {v vl : Value} {W V : Nat → Int} {a : Nat → Nat} (h : SlOf w B v 1 N (wordF W)) (hl : RowSl w B2 vl 2 m (edF a V)) (ha : ∀ j, j < m → a j = a0 + j) (hm : 1 ≤ m) (hb : a0 + m ≤ N) (hN : N ≤ 512) :
    Calls Tryz.prog 136 #[v, vl] w fun e w' => ∃ v', e = .returned v' ∧ RowSl w' w.heap.size v' 1 N (wordF (appl a0 V W m)) ∧ Below w.heap.size w w' := by
  have KC := Lib.hid (wclone_any h (by omega) hN)
  obtain ⟨g, off, cap, rfl, _, _, _, hg, hrow, _⟩ := ed_row hl (by omega)
  have HROW := Lib.hid hrow
  have HG := Lib.hid hg
  have HA := Lib.hid ha
  have HX := Lib.hid (And.intro hm (And.intro hb hN))
  clear h hl hrow hg ha hm hb hN
  go_enter Tryz.func136, Tryz.ntmps136
  go_wp2_with fail
  refine KC.out.mono ?_
  rintro _ w1 ⟨v', rfl, ho, hb1⟩
  obtain ⟨g1, cap1, rfl⟩ : ∃ g cap, v' = .slice (some ⟨g, 0, none⟩) N cap := by
    obtain ⟨g, cap, e⟩ := ho.form (by have := HX.out; omega)
    exact ⟨g, cap, e.1⟩
  have hb1' := (ho.lt g1 rfl).1
  have HO := Lib.hid ho
  have HB1 := Lib.hid hb1
  have HG1 := Lib.hid hb1'
  clear ho hb1 KC hb1'
  go_wp2_with fail
  go_loopw [12] (fun ix wr => ∃ i : Nat, i ≤ m ∧ ix = .int .i64 i ∧ wr.ownsRow w.heap.size 25 1 (.slice (some ⟨g1, 0, none⟩) N cap1) N (flatF 1 (wordF (appl a0 V W i)) N) ∧ Below w.heap.size w wr) (fun ix _ => m - (intOf ix).toNat)
  case atStart => exact ⟨0, Nat.zero_le _, rfl, by rw [flatF_congr (G := wordF W) (fun j _ t _ => by show Value.int .u64 _ = Value.int .u64 _; unfold appl; rw [if_neg (by omega)])]; exact HO.out, HB1.out⟩
  case round =>
    obtain ⟨i, hi, rfl, ho, hbr⟩ := hrel
    have HBR := Lib.hid hbr
    by_cases hlt : i < m
    · have hltz : (i : Int) < (m : Int) := by omega
      have i0' : (0 : Int) ≤ (i : Int) := Int.natCast_nonneg i
      have hx := HX.out
      have wi : IntKind.i64.wrap ((i : Int) + 1) = (i : Int) + 1 := by rw [IntKind.wrap_i64]; omega
      have hr := HROW.out i hlt
      rw [← obj_below hbr HG.out, HA.out i hlt] at hr
      obtain ⟨p, hp⟩ : ∃ p, a0 + i = p := ⟨_, rfl⟩
      rw [hp] at hr
      obtain ⟨x, hxv⟩ : ∃ x, V i = x := ⟨_, rfl⟩
      rw [hxv] at hr
      have p0 : (p : Int) ≥ 0 := by omega
      have p1 : (0 : Int) ≤ (p : Int) := by omega
      have p2 : (p : Int) < (N : Int) := by omega
      have hoA := ho.alloc (.cells #[.int .i64 p, .int .u64 x] 147)
      have hcl := hoA.cellAt p (by omega)
      have h1 := flatF_get 1 (wordF (appl a0 V W i)) N p 0 (by omega) (by decide)
      rw [Nat.mul_one, Nat.add_zero] at h1
      rw [h1, cell?_heap] at hcl
      have hfz := hoA.frozenAt p
      rw [frozen?_heap] at hfz
      have hst := (World.ownsRow.stored hoA p (.int .u64 x)).1
      rw [flat_words_set] at hst
      have hF : flatF 1 (wordF (updF (appl a0 V W i) p x)) N = flatF 1 (wordF (appl a0 V W (i + 1))) N := flatF_congr fun j _ t _ => by
        show Value.int .u64 (updF (appl a0 V W i) p x j) = Value.int .u64 (appl a0 V W (i + 1) j)
        rw [← hp, ← hxv, appl_succ]
      rw [hF] at hst
      have HST := Lib.hid hst
      have HBA := Lib.hid (hbr.alloc hbr.size (.cells #[.int .i64 p, .int .u64 x] 147))
      have HI := Lib.hid hlt
      have hgl := lt_of_cell hcl
      have hne : g1 ≠ wr.heap.size := by have := (ho.lt g1 rfl).2; omega
      have hql : obj (wr.alloc (.cells #[.int .i64 p, .int .u64 x] 147)) wr.heap.size = some (.cells #[.int .i64 p, .int .u64 x] 147 (0, 0)) := newA _ _
      have hqs := lt_of_obj hql
      generalize hw0 : wordF (appl a0 V W i) p 0 = w0 at hcl
      clear hi hlt ho hbr hx hp hxv hoA h1 hst hF HBR hw0
      go_wp2_with fail
      exact ⟨⟨i + 1, HI.out, by simp, HST.out, HBA.out.setCell HG1.out _⟩, by have := HI.out; simp only [intOf]; omega⟩
    · have e : i = m := by omega
      subst e
      have hltz : ¬ (i : Int) < (i : Int) := by omega
      have HR := Lib.hid (own_row ho (fun e => by have := HX.out; omega))
      clear hi hlt ho hbr
      go_wp2
      go_ret
      exact ⟨_, rfl, HR.out, HBR.out⟩
end Go.Proofs.YtphmfaddgpjndaaGreat

/- span.Edits. (Printed by wip/d/genZ6.py.) -/
namespace Go.Proofs.YtphmfaddgpjndaaGreat
open Go.ChangeShapes Go.WideShapes Go.RowKit

/-- a word, one byte of which is written -/
def putB (x : Int) (s : Nat) (c : Int) : Int := bits .or .u64 (bits .andNot .u64 x (IntKind.u64.wrap (255 * 2 ^ s))) (IntKind.u64.wrap (c * 2 ^ s))
/-- words, of which so many bytes are written -/
def wrote (W : Nat → Int) (off : Nat) (c : Nat → Int) : Nat → Nat → Int
  | 0 => W
  | k + 1 => updF (wrote W off c k) ((off + k) / 8) (putB (wrote W off c k ((off + k) / 8)) ((off + k) % 8 * 8) (c k))
theorem wrote_past (W : Nat → Int) (off : Nat) (c : Nat → Int) : ∀ k q, (∀ j, j < k → (off + j) / 8 ≠ q) → wrote W off c k q = W q
  | 0, _, _ => rfl
  | k + 1, q, h => by
    show updF (wrote W off c k) ((off + k) / 8) _ q = W q
    rw [updF_ne _ _ _ (Ne.symm (h k (by omega)))]
    exact wrote_past W off c k q fun j hj => h j (by omega)
theorem flat_ed_set (A : Nat → Nat) (V : Nat → Int) (n p : Nat) (y : Int) : (flatF 2 (edF A V) n).set (p * 2 + 1) (.int .u64 y) = flatF 2 (edF A (updF V p y)) n := by
  apply List.ext_getElem?
  intro t
  rw [List.getElem?_set]
  by_cases ht : t < n * 2
  · have h1 := flatF_get 2 (edF A (updF V p y)) n (t / 2) (t % 2) (by omega) (by omega)
    have h2 := flatF_get 2 (edF A V) n (t / 2) (t % 2) (by omega) (by omega)
    rw [show t / 2 * 2 + t % 2 = t by omega] at h1 h2
    rw [h1]
    by_cases e : p * 2 + 1 = t
    · rw [if_pos e, if_pos (by rw [flatF_len]; omega), show t / 2 = p by omega, show t % 2 = 1 by omega]
      show _ = some (Value.int .u64 (updF V p y p))
      rw [updF_same]
    · rw [if_neg e, h2]
      by_cases e2 : t % 2 = 0
      · rw [e2]; rfl
      · rw [show t % 2 = 1 by omega]
        show some (Value.int .u64 (V (t / 2))) = some (Value.int .u64 (updF V p y (t / 2)))
        rw [updF_ne _ _ _ (by omega)]
  · have h1 : (flatF 2 (edF A (updF V p y)) n)[t]? = none := List.getElem?_eq_none (by rw [flatF_len]; omega)
    have h2 : (flatF 2 (edF A V) n)[t]? = none := List.getElem?_eq_none (by rw [flatF_len]; omega)
    rw [h1, h2]
    split
    · rw [if_neg (by rw [flatF_len]; omega)]
    · rfl
theorem own_below {w w' : World} {base size n : Nat} {e : TypeId} {v : Value} {xs : List Value} (h : w.ownsRow base e size v n xs) (k : Below w.heap.size w w') : w'.ownsRow base e size v n xs := by
  refine ⟨h.1, ?_⟩
  rcases h.2 with h2 | ⟨g, cap, cur, hv, hb, hg, rest⟩
  · exact .inl h2
  · exact .inr ⟨g, cap, cur, hv, hb, keep k hg, rest⟩
theorem ed_next {W c : Nat → Int} {off k q0 l q n1 : Nat} {x : Int} {r8 : Nat} (hq : q0 + l = q) (h : wrote W off c (k + 1) = updF (wrote W off c k) q (putB x r8 (c k))) :
    flatF 2 (edF (fun j => q0 + j) (updF (fun j => wrote W off c k (q0 + j)) l (putB x r8 (c k)))) n1 = flatF 2 (edF (fun j => q0 + j) (fun j => wrote W off c (k + 1) (q0 + j))) n1 := flatF_congr fun j _ t _ => by
  have e : updF (fun j => wrote W off c k (q0 + j)) l (putB x r8 (c k)) j = wrote W off c (k + 1) (q0 + j) := by
    rw [h]
    by_cases e : j = l
    · subst e; rw [updF_same, hq, updF_same]
    · rw [updF_ne _ _ _ e, updF_ne _ _ _ (by omega)]
  show (if t = 0 then _ else Value.int .u64 (updF (fun j => wrote W off c k (q0 + j)) l (putB x r8 (c k)) j)) = (if t = 0 then _ else Value.int .u64 (wrote W off c (k + 1) (q0 + j)))
  rw [e]
theorem lineN_next (off k : Nat) : lineN off (k + 1) = (if k = 0 ∨ (off + k - 1) / 8 ≠ (off + k) / 8 then lineN off k + 1 else lineN off k) ∧ 1 ≤ lineN off (k + 1) ∧ off / 8 + (lineN off (k + 1) - 1) = (off + k) / 8 := by
  unfold lineN
  by_cases h : k = 0
  · subst h; simp
  · rw [if_neg h, if_neg (by omega)]
    split <;> omega

set_option maxRecDepth 100000 in
set_option maxHeartbeats 3200000 in
theorem sedits_any {w : World} {B B2 N off n : Nat} {v vb : Value} {W c : Nat → Int} (h : SlOf w B v 1 N (wordF W)) (hb : SlOf w B2 vb 1 n (fun i _ => .int .u8 (c i))) (hN : 8 ≤ N ∧ N ≤ 512) (h1 : off + n ≤ N * 8) (h2 : n ≤ 448) (hc : ∀ k, k < n → 0 ≤ c k ∧ c k < 256) :
    Calls Tryz.prog 143 #[v, .int .i64 off, vb] w fun e w' => ∃ v', e = .returned (.tuple #[v', .bool true]) ∧ RowSl w' w.heap.size v' 2 (lineN off n) (edF (fun j => off / 8 + j) (fun j => wrote W off c n (off / 8 + j))) ∧ Below w.heap.size w w' := by
  obtain ⟨i0, hi0, hz0, hz1, hz2⟩ := info_parts' info147
  obtain ⟨g, off0, cap, rfl, _, _, _, hcell⟩ := h.cells (by omega)
  have K0 := Lib.hid (fun w => within_any (ao := some ⟨g, off0, none⟩) (cap := cap) h1 h2 hN.2 w)
  have HCELL := Lib.hid hcell
  have HX := Lib.hid (And.intro hN (And.intro h1 h2))
  obtain ⟨aob, capb, rfl⟩ := hb.form
  have HBY : Hid (∀ k, k < n → ∃ gb offb, aob = some ⟨gb, offb, none⟩ ∧ cellAt (obj w gb) (offb + k) = some (.int .u8 (c k)) ∧ 0 ≤ c k ∧ c k < 256) := Lib.hid (fun k hk => by
    obtain ⟨gb, offb, capb2, e, _, _, _, hcb⟩ := hb.cells (by omega)
    have e1 : aob = some ⟨gb, offb, none⟩ ∧ capb = capb2 := by simpa using e
    have := hcb k hk 0 (by decide)
    rw [Nat.mul_one, Nat.add_zero] at this
    exact ⟨gb, offb, e1.1, this, hc k hk⟩)
  clear h hcell hb hc hN h1 h2
  obtain ⟨q0, hq0⟩ : ∃ q0, off / 8 = q0 := ⟨_, rfl⟩
  rw [hq0]
  have HQ0 := Lib.hid hq0
  clear hq0
  go_enter Tryz.func143, Tryz.ntmps143
  go_wp2_with fail
  refine (K0.out _).mono ?_
  rintro _ _ ⟨rfl, rfl⟩
  go_wp2_with fail
  go_loopw [21, 8] (fun ix s wr => ∃ k : Nat, k ≤ n ∧ ix = .int .i64 k ∧ wr.ownsRow w.heap.size 147 2 s (lineN off k) (flatF 2 (edF (fun j => q0 + j) (fun j => wrote W off c k (q0 + j))) (lineN off k)) ∧ (lineN off k = 0 → s = .slice none 0 0) ∧ Below w.heap.size w wr) (fun ix _ _ => n - (intOf ix).toNat)
  case atStart => exact ⟨0, Nat.zero_le _, rfl, World.ownsRow_nil _ _ _ _, fun _ => rfl, Below.refl _ _⟩
  case round =>
    obtain ⟨k, hk, rfl, ho, hz, hbr⟩ := hrel
    have HO := Lib.hid ho
    have HZ := Lib.hid hz
    have HBR := Lib.hid hbr
    by_cases hlt : k < n
    · have hltz : (k : Int) < (n : Int) := by omega
      have k0 : (0 : Int) ≤ (k : Int) := Int.natCast_nonneg k
      have hx := HX.out
      have wk : IntKind.i64.wrap ((k : Int) + 1) = (k : Int) + 1 := by rw [IntKind.wrap_i64]; omega
      obtain ⟨gb, offb, rfl, hcb, hc0, hc1⟩ := HBY.out k hlt
      replace hcb := (below_kept hbr).cell hcb (by simp)
      obtain ⟨p, hp⟩ : ∃ p, off + k = p := ⟨_, rfl⟩
      obtain ⟨q, hq⟩ : ∃ q, p / 8 = q := ⟨_, rfl⟩
      obtain ⟨r, hr⟩ : ∃ r, p % 8 = r := ⟨_, rfl⟩
      obtain ⟨r8, hr8⟩ : ∃ r8, r * 8 = r8 := ⟨_, rfl⟩
      have wp0 : IntKind.i64.wrap ((off : Int) + (k : Int)) = (p : Int) := by rw [IntKind.wrap_i64]; omega
      have eq1 : (p : Int) / 8 = (q : Int) := by omega
      have eq2 : (p : Int).tdiv 8 = (q : Int) := by have := tdiv_nat p 8; rw [hq] at this; exact this
      have er1 : (p : Int) % 8 = (r : Int) := by omega
      have er2 : (p : Int).tmod 8 = (r : Int) := by have := tmod_nat p 8; rw [hr] at this; exact this
      have wq : IntKind.i64.wrap (q : Int) = (q : Int) := by rw [IntKind.wrap_i64]; omega
      have wr' : IntKind.i64.wrap (r : Int) = (r : Int) := by rw [IntKind.wrap_i64]; omega
      have wr8 : IntKind.i64.wrap ((r : Int) * 8) = (r8 : Int) := by rw [IntKind.wrap_i64]; omega
      have r0 : ¬ (r8 : Int) < 0 := by omega
      have r1 : (r8 : Int) < 64 := by omega
      have q00 : (0 : Int) ≤ (q : Int) := by omega
      have qN : (q : Int) < (N : Int) := by omega
      have hcq := HCELL.out q (by omega) 0 (by decide)
      rw [Nat.mul_one, Nat.add_zero] at hcq
      replace hcq : cellAt (obj w g) (off0 + q) = some (.int .u64 (W q)) := hcq
      replace hcq := (below_kept hbr).cell hcq (by simp)
      have wc : IntKind.u64.wrap (c k) = c k := by rw [IntKind.wrap_u64]; omega
      obtain ⟨hn1, hn2, hn3⟩ := lineN_next off k
      rw [hp, hq] at hn1 hn3
      rw [HQ0.out] at hn3
      have HI := Lib.hid hlt
      have hnle := lineN_le off (k + 1)
      obtain ⟨n1, hn1'⟩ : ∃ n1, lineN off (k + 1) = n1 := ⟨_, rfl⟩
      obtain ⟨n0, hn0'⟩ : ∃ n0, lineN off k = n0 := ⟨_, rfl⟩
      rw [hn1'] at hn1 hn2 hn3 hnle
      rw [hn0'] at hn1 HO HZ
      obtain ⟨l, hl⟩ : ∃ l, n1 - 1 = l := ⟨_, rfl⟩
      rw [hl] at hn3
      have hql := hn3
      have HW1 : Hid (wrote W off c (k + 1) = updF (wrote W off c k) q (putB (wrote W off c k q) r8 (c k))) := Lib.hid (by show updF _ ((off + k) / 8) _ = _; rw [hp, hq, hr, hr8])
      have HN := Lib.hid (And.intro hn1' (And.intro hn1 (And.intro hn2 (And.intro hn3 (And.intro hl (show n1 ≤ 448 by omega))))))
      by_cases hnew : k = 0 ∨ (p - 1) / 8 ≠ q
      · rw [if_pos hnew] at hn1
        have HWP : Hid (wrote W off c k q = W q) := Lib.hid (wrote_past W off c k q fun j hj => by omega)
        by_cases h0 : k = 0
        · have hn00 : n0 = 0 := by rw [← hn0', h0]; rfl
          have hs := HZ.out hn00
          subst hs
          have hq0n : q0 + n0 = q := by omega
          have hln : l = n0 := by omega
          subst hln
          clear h0 hn00 hnew
          -- a new word
          have hnews : (List.range 2).map (edF (fun j => q0 + j) (fun j => wrote W off c k (q0 + j)) l) = [.int .i64 (q : Int), .int .u64 (W q)] := by
            rw [ed_news]
            simp only [hq0n, HWP.out]
          have HNW := Lib.hid hnews
          have HXA := Lib.hid (show l ≤ 448 by omega)
          generalize hwq : W q = xq at hcq
          have HWQ := Lib.hid hwq
          clear hnews
          have wl : IntKind.i64.wrap ((n1 : Int) - 1) = (l : Int) := by rw [IntKind.wrap_i64]; omega
          have l0 : (0 : Int) ≤ (l : Int) := by omega
          have l1 : (l : Int) < (n1 : Int) := by omega
          go_wp2_with (at_builtin; refine wpList_append_lies _ rfl (.tmp 44) (.tmp 53) 115 rfl w.heap.size 147 i0 _ 2 16 Tryz.underlying115 hi0 hz0 hz1 hz2 rfl (by decide) _ l _ rfl (HO.out.alloc _) ⟨wr.heap.size, 0, none⟩ 1 1 [.int .i64 q, .int .u64 xq] rfl rfl (news_new _ _ _) (by simp [Value.oneCell']) (by decide) (by have := HXA.out; unfold maxLen; omega) (by have := HXA.out; omega) (by have := HBR.out.size; simp; omega) (wr.heap.size + 1) (by simp) ?_; intro gA capA wA hownA hgrowA hatA hltA; rw [← hn1])
          have HBX : Hid (Below w.heap.size w wA) := Lib.hid (below_own HBR.out HBR.out.size HO.out hgrowA)
          rw [← HWQ.out, ← HNW.out, ← flatF_succ, ← hn1] at hownA
          have HOC := Lib.hid hownA
          -- the tail: the word's own value
          have hcl := HOC.out.cellAt (l * 2 + 1) (by omega)
          have h1 := flatF_get 2 (edF (fun j => q0 + j) (fun j => wrote W off c k (q0 + j))) n1 l 1 (by omega) (by decide)
          rw [h1, cell?_heap] at hcl
          replace hcl : cellAt (obj wA gA) (l * 2 + 1) = some (.int .u64 (wrote W off c k (q0 + l))) := hcl
          rw [hql] at hcl
          have hfz := HOC.out.frozenAt (l * 2 + 1)
          rw [frozen?_heap] at hfz
          have hgl := lt_of_cell hcl
          have hgs := (HOC.out.lt gA rfl).1
          have HgA := Lib.hid hgs
          generalize hx0 : wrote W off c k q = x at hcl
          clear h1 hgs
          refine wp_region_more_tail 19 (by kernel_rfl) (by kernel_rfl) (by kernel_rfl) ?_
          simp only [List.take_succ_cons, List.take_zero, List.drop_succ_cons, List.drop_zero]
          repeat (go_big_quiet_step ((fail)))
          refine wpQuiet_nil ?_
          intro _ hw'
          obtain ⟨y, hw''⟩ := hw'
          subst hw''
          have hom := own_below HOC.out (more_below wA y)
          have hfz2 := hom.frozenAt (l * 2 + 1)
          rw [frozen?_heap] at hfz2
          have hcl2 := (below_kept (more_below wA y)).cell hcl (by simp)
          have HST := Lib.hid (fun u => (World.ownsRow.stored hom (l * 2 + 1) (.int .u64 u)).1)
          have HBM : Hid (Below w.heap.size w (more wA y)) := Lib.hid (HBX.out.trans ((more_below wA y).mono HBX.out.size))
          have hgl2 := lt_of_cell hcl2
          clear hcl hfz hgl hom HOC
          change wpList _ _ _ _ _ (more wA y)
          generalize more wA y = wm at hcl2 hfz2 hgl2 HST HBM ⊢
          have hst := HST.out (putB x r8 (c k))
          rw [flat_ed_set, ed_next HN.out.2.2.2.1 (by rw [HW1.out, hx0])] at hst
          rw [← HN.out.1] at hst
          have HST2 := Lib.hid hst
          clear hst HST
          go_wp2_with fail
          exact ⟨⟨k + 1, HI.out, by simp, by rw [HN.out.1]; have := HST2.out; rw [HN.out.1] at this; first | exact this | (rw [show l + 1 = n1 by have h1 := HN.out.2.2.1; have h2 := HN.out.2.2.2.2.1; omega]; exact this), (fun e => by have h1 := HN.out.1; have h2 := HN.out.2.2.1; omega), HBM.out.setCell HgA.out _⟩, by have := HI.out; simp only [intOf]; omega⟩
        · have hp1 := (lineN_next off (k - 1)).2
          rw [show k - 1 + 1 = k by omega, hn0', HQ0.out, show off + (k - 1) = p - 1 by omega] at hp1
          obtain ⟨gs, caps, rfl, hgs1, hgs2⟩ := HO.out.form (by omega)
          obtain ⟨lb, hlb⟩ : ∃ lb, n0 - 1 = lb := ⟨_, rfl⟩
          have hcw := HO.out.cellAt (lb * 2) (by omega)
          have h1 := flatF_get 2 (edF (fun j => q0 + j) (fun j => wrote W off c k (q0 + j))) n0 lb 0 (by omega) (by decide)
          rw [Nat.add_zero] at h1
          rw [h1, cell?_heap] at hcw
          replace hcw : cellAt (obj wr gs) (lb * 2) = some (.int .i64 ((q0 + lb : Nat) : Int)) := hcw
          obtain ⟨zb, hzb⟩ : ∃ zb, q0 + lb = zb := ⟨_, rfl⟩
          rw [hzb] at hcw
          have wlb : IntKind.i64.wrap ((n0 : Int) - 1) = (lb : Int) := by rw [IntKind.wrap_i64]; omega
          have lb0 : (0 : Int) ≤ (lb : Int) := by omega
          have lb1 : (lb : Int) < (n0 : Int) := by omega
          have hn00 : ((n0 : Int) == 0) = false := by simp; omega
          have hzq : ((zb : Int) == (q : Int)) = false := by simp; omega
          have hgsz := lt_of_cell hcw
          have hq0n : q0 + n0 = q := by omega
          have hln : l = n0 := by omega
          subst hln
          clear h0 hnew hp1 h1 hlb hzb hgs1 hgs2
          -- a new word
          have hnews : (List.range 2).map (edF (fun j => q0 + j) (fun j => wrote W off c k (q0 + j)) l) = [.int .i64 (q : Int), .int .u64 (W q)] := by
            rw [ed_news]
            simp only [hq0n, HWP.out]
          have HNW := Lib.hid hnews
          have HXA := Lib.hid (show l ≤ 448 by omega)
          generalize hwq : W q = xq at hcq
          have HWQ := Lib.hid hwq
          clear hnews
          have wl : IntKind.i64.wrap ((n1 : Int) - 1) = (l : Int) := by rw [IntKind.wrap_i64]; omega
          have l0 : (0 : Int) ≤ (l : Int) := by omega
          have l1 : (l : Int) < (n1 : Int) := by omega
          go_wp2_with (at_builtin; refine wpList_append_lies _ rfl (.tmp 44) (.tmp 53) 115 rfl w.heap.size 147 i0 _ 2 16 Tryz.underlying115 hi0 hz0 hz1 hz2 rfl (by decide) _ l _ rfl (HO.out.alloc _) ⟨wr.heap.size, 0, none⟩ 1 1 [.int .i64 q, .int .u64 xq] rfl rfl (news_new _ _ _) (by simp [Value.oneCell']) (by decide) (by have := HXA.out; unfold maxLen; omega) (by have := HXA.out; omega) (by have := HBR.out.size; simp; omega) (wr.heap.size + 1) (by simp) ?_; intro gA capA wA hownA hgrowA hatA hltA; rw [← hn1])
          have HBX : Hid (Below w.heap.size w wA) := Lib.hid (below_own HBR.out HBR.out.size HO.out hgrowA)
          rw [← HWQ.out, ← HNW.out, ← flatF_succ, ← hn1] at hownA
          have HOC := Lib.hid hownA
          -- the tail: the word's own value
          have hcl := HOC.out.cellAt (l * 2 + 1) (by omega)
          have h1 := flatF_get 2 (edF (fun j => q0 + j) (fun j => wrote W off c k (q0 + j))) n1 l 1 (by omega) (by decide)
          rw [h1, cell?_heap] at hcl
          replace hcl : cellAt (obj wA gA) (l * 2 + 1) = some (.int .u64 (wrote W off c k (q0 + l))) := hcl
          rw [hql] at hcl
          have hfz := HOC.out.frozenAt (l * 2 + 1)
          rw [frozen?_heap] at hfz
          have hgl := lt_of_cell hcl
          have hgs := (HOC.out.lt gA rfl).1
          have HgA := Lib.hid hgs
          generalize hx0 : wrote W off c k q = x at hcl
          clear h1 hgs
          refine wp_region_more_tail 19 (by kernel_rfl) (by kernel_rfl) (by kernel_rfl) ?_
          simp only [List.take_succ_cons, List.take_zero, List.drop_succ_cons, List.drop_zero]
          repeat (go_big_quiet_step ((fail)))
          refine wpQuiet_nil ?_
          intro _ hw'
          obtain ⟨y, hw''⟩ := hw'
          subst hw''
          have hom := own_below HOC.out (more_below wA y)
          have hfz2 := hom.frozenAt (l * 2 + 1)
          rw [frozen?_heap] at hfz2
          have hcl2 := (below_kept (more_below wA y)).cell hcl (by simp)
          have HST := Lib.hid (fun u => (World.ownsRow.stored hom (l * 2 + 1) (.int .u64 u)).1)
          have HBM : Hid (Below w.heap.size w (more wA y)) := Lib.hid (HBX.out.trans ((more_below wA y).mono HBX.out.size))
          have hgl2 := lt_of_cell hcl2
          clear hcl hfz hgl hom HOC
          change wpList _ _ _ _ _ (more wA y)
          generalize more wA y = wm at hcl2 hfz2 hgl2 HST HBM ⊢
          have hst := HST.out (putB x r8 (c k))
          rw [flat_ed_set, ed_next HN.out.2.2.2.1 (by rw [HW1.out, hx0])] at hst
          rw [← HN.out.1] at hst
          have HST2 := Lib.hid hst
          clear hst HST
          go_wp2_with fail
          exact ⟨⟨k + 1, HI.out, by simp, by rw [HN.out.1]; have := HST2.out; rw [HN.out.1] at this; first | exact this | (rw [show l + 1 = n1 by have h1 := HN.out.2.2.1; have h2 := HN.out.2.2.2.2.1; omega]; exact this), (fun e => by have h1 := HN.out.1; have h2 := HN.out.2.2.1; omega), HBM.out.setCell HgA.out _⟩, by have := HI.out; simp only [intOf]; omega⟩
      · rw [if_neg hnew] at hn1
        obtain ⟨gs, caps, rfl, hgs1, hgs2⟩ := HO.out.form (by omega)
        have HOC : Hid (wr.ownsRow w.heap.size 147 2 (.slice (some ⟨gs, 0, none⟩) n1 caps) n1 (flatF 2 (edF (fun j => q0 + j) (fun j => wrote W off c k (q0 + j))) n1)) := Lib.hid (by rw [hn1]; exact HO.out)
        have e0 : n0 = n1 := hn1.symm
        subst e0
        -- the last one's word
        have hcw := HO.out.cellAt (l * 2) (by omega)
        have h1 := flatF_get 2 (edF (fun j => q0 + j) (fun j => wrote W off c k (q0 + j))) n0 l 0 (by omega) (by decide)
        rw [Nat.add_zero] at h1
        rw [h1, cell?_heap] at hcw
        replace hcw : cellAt (obj wr gs) (l * 2) = some (.int .i64 ((q0 + l : Nat) : Int)) := hcw
        rw [hql] at hcw
        have hn00 : ((n0 : Int) == 0) = false := by simp; omega
        have HBX := HBR
        clear h1
        have wl : IntKind.i64.wrap ((n0 : Int) - 1) = (l : Int) := by rw [IntKind.wrap_i64]; omega
        have l0 : (0 : Int) ≤ (l : Int) := by omega
        have l1 : (l : Int) < (n0 : Int) := by omega
        go_wp2_with fail
        -- the tail: the word's own value
        have hcl := HOC.out.cellAt (l * 2 + 1) (by omega)
        have h1 := flatF_get 2 (edF (fun j => q0 + j) (fun j => wrote W off c k (q0 + j))) n0 l 1 (by omega) (by decide)
        rw [h1, cell?_heap] at hcl
        replace hcl : cellAt (obj wr gs) (l * 2 + 1) = some (.int .u64 (wrote W off c k (q0 + l))) := hcl
        rw [hql] at hcl
        have hfz := HOC.out.frozenAt (l * 2 + 1)
        rw [frozen?_heap] at hfz
        have hgl := lt_of_cell hcl
        have hgs := (HOC.out.lt gs rfl).1
        have Hgs := Lib.hid hgs
        generalize hx0 : wrote W off c k q = x at hcl
        clear h1 hgs
        refine wp_region_more_tail 19 (by kernel_rfl) (by kernel_rfl) (by kernel_rfl) ?_
        simp only [List.take_succ_cons, List.take_zero, List.drop_succ_cons, List.drop_zero]
        repeat (go_big_quiet_step ((fail)))
        refine wpQuiet_nil ?_
        intro _ hw'
        obtain ⟨y, hw''⟩ := hw'
        subst hw''
        have hom := own_below HOC.out (more_below wr y)
        have hfz2 := hom.frozenAt (l * 2 + 1)
        rw [frozen?_heap] at hfz2
        have hcl2 := (below_kept (more_below wr y)).cell hcl (by simp)
        have HST := Lib.hid (fun u => (World.ownsRow.stored hom (l * 2 + 1) (.int .u64 u)).1)
        have HBM : Hid (Below w.heap.size w (more wr y)) := Lib.hid (HBX.out.trans ((more_below wr y).mono HBX.out.size))
        have hgl2 := lt_of_cell hcl2
        clear hcl hfz hgl hom HOC
        change wpList _ _ _ _ _ (more wr y)
        generalize more wr y = wm at hcl2 hfz2 hgl2 HST HBM ⊢
        have hst := HST.out (putB x r8 (c k))
        rw [flat_ed_set, ed_next HN.out.2.2.2.1 (by rw [HW1.out, hx0])] at hst
        rw [← HN.out.1] at hst
        have HST2 := Lib.hid hst
        clear hst HST
        go_wp2_with fail
        exact ⟨⟨k + 1, HI.out, by simp, by rw [HN.out.1]; have := HST2.out; rw [HN.out.1] at this; first | exact this | (rw [show l + 1 = n0 by have h1 := HN.out.2.2.1; have h2 := HN.out.2.2.2.2.1; omega]; exact this), (fun e => by have h1 := HN.out.1; have h2 := HN.out.2.2.1; omega), HBM.out.setCell Hgs.out _⟩, by have := HI.out; simp only [intOf]; omega⟩
    · have e : k = n := by omega
      subst e
      have hltz : ¬ (k : Int) < (k : Int) := by omega
      have HR := Lib.hid (own_row ho hz)
      clear hk hlt ho hz hbr
      go_wp2
      go_ret2
      exact ⟨_, rfl, HR.out, HBR.out⟩
end Go.Proofs.YtphmfaddgpjndaaGreat

/- image.find, image.Is, image.Holds, image.holds. -/
namespace Go.Proofs.YtphmfaddgpjndaaGreat
open Go.ChangeShapes Go.WideShapes Go.RowKit
open Go.Shelf
shelf_lay_g SlLaysH0.n6 Slgf 6 at Tryz 151 as Tryz.laysIF
shelf_lay_g SlLaysH0.n8 Slgf 8 at Tryz 170 as Tryz.laysCF

theorem beqI (a b : Int) : (a == b) = decide (a = b) := by by_cases h : a = b <;> simp [h]
def offN (a : Nat) : Nat := if a ≤ 512 then (a + 1) * 8 else 0
set_option maxHeartbeats 800000 in
theorem off_all (a s : Nat) (u : Bool) (w : World) : Calls Tryz.prog 135 #[.agg #[.int .i64 a, .int .i64 s, .bool u]] w fun e w' => e = .returned (.int .i64 (offN a : Nat)) ∧ Below w.heap.size w w' := by
  unfold offN
  by_cases ha : a ≤ 512
  · rw [if_pos ha]; exact off_any a s u ha w
  · rw [if_neg ha]
    have d1 : ¬ (a : Int) < 0 := by omega
    have d2 : (a : Int) > 512 := by omega
    have HB : Hid (Below w.heap.size w (w.alloc (.cells #[.int .i64 a, .int .i64 s, .bool u] 45))) := Lib.hid ((Below.refl _ _).alloc (Nat.le_refl _) _)
    have hq := newA w (.cells #[.int .i64 a, .int .i64 s, .bool u] 45)
    have hql := lt_of_obj hq
    clear ha
    go_enter Tryz.func135, Tryz.ntmps135
    go_wp2_with fail
    go_ret
    exact ⟨rfl, HB.out⟩
set_option maxHeartbeats 1600000 in
theorem find1_any (a s : Nat) (u : Bool) (off : Int) (H : Nat) (w : World) (hH : cellAt (obj w H) 0 = some (.int .i64 off)) :
    Calls Tryz.prog 152 #[.agg #[.int .i64 a, .int .i64 s, .bool u], .pointer (some ⟨H, 0, none⟩)] w fun e w' => e = .returned (.bool (u && decide ((offN a : Int) = off))) ∧ Below w.heap.size w w' := by
  have hlt := lt_of_cell hH
  have HB : Hid (Below w.heap.size w (w.alloc (.cells #[.int .i64 a, .int .i64 s, .bool u] 45))) := Lib.hid ((Below.refl _ _).alloc (Nat.le_refl _) _)
  have hq := newA w (.cells #[.int .i64 a, .int .i64 s, .bool u] 45)
  have hql := lt_of_obj hq
  have hH2 : cellAt (obj (w.alloc (.cells #[.int .i64 a, .int .i64 s, .bool u] 45)) H) 0 = some (.int .i64 off) := by rw [obj_alloc_past w _ H hlt]; exact hH
  have hlt2 := lt_of_cell hH2
  have KO := Lib.hid (fun w => off_all a s u w)
  generalize offN a = o at KO ⊢
  cases u
  · go_enter Tryz.func152, Tryz.ntmps152
    go_wp2_with fail
    go_big_quiet (fail)
    go_wp2_with fail
    go_ret
    exact ⟨rfl, HB.out.os, HB.out.tape, HB.out.output, HB.out.size, HB.out.block⟩
  · go_enter Tryz.func152, Tryz.ntmps152
    go_wp2_with fail
    refine wp_region_more (by kernel_rfl) (by kernel_rfl) ?_
    repeat (go_big_quiet_step ((go_at_call 135; exact more_call (KO.out _))))
    refine wpQuiet_nil ?_
    intro _ hw'
    obtain ⟨x, hw''⟩ := hw'
    subst hw''
    have HB2 := Lib.hid (HB.out.trans ((more_below _ x).mono HB.out.size))
    go_wp2_with fail
    go_ret
    exact ⟨by simp; exact beqI _ _, HB2.out⟩
/-- the blocks, as triples -/
def tri (b : Bs) (n : Nat) : List (Nat × Nat × Bool) := (List.range n).map fun i => (b.at i, b.sz i, b.us i)
def encT (x : Nat × Nat × Bool) : List Value := [.int .i64 (x.1 : Int), .int .i64 (x.2.1 : Int), .bool x.2.2]
theorem tri_get (b : Bs) (n j : Nat) (h : j < n) : (tri b n)[j]! = (b.at j, b.sz j, b.us j) := by simp [tri, h]
theorem tri_len (b : Bs) (n : Nat) : (tri b n).length = n := by simp [tri]
def findP (off : Int) (x : Nat × Nat × Bool) : Bool := x.2.2 && decide ((offN x.1 : Int) = off)
theorem find1_pred (off : Int) (H : Nat) (w : World) (hH : cellAt (obj w H) 0 = some (.int .i64 off)) : PredBelow Tryz.prog 152 #[.pointer (some ⟨H, 0, none⟩)] (fun x => .agg (encT x).toArray) (findP off) w := fun W x hb =>
  (find1_any x.1 x.2.1 x.2.2 off H W (by rw [obj_below hb (lt_of_cell hH)]; exact hH)).mono fun _ _ ⟨he, h2⟩ => ⟨he, hb.trans (h2.mono hb.size)⟩
theorem size45 (w : World) : (sizeOf 45).run Tryz.prog w = .ok 3 w := Tryz.sizeOf45 w
theorem first_hit {α : Type} [Inhabited α] (p : α → Bool) (zs : List α) : ∀ n : Nat, (∀ j : Nat, j < n → p zs[j]! = false) ∨ ∃ k : Nat, k < n ∧ p zs[k]! = true ∧ ∀ j : Nat, j < k → p zs[j]! = false
  | 0 => Or.inl fun j hj => absurd hj (Nat.not_lt_zero _)
  | n + 1 => by
    rcases first_hit p zs n with h | ⟨k, h1, h2, h3⟩
    · cases hp : p zs[n]!
      · left
        intro j hj
        by_cases e : j = n
        · rw [e]; exact hp
        · exact h j (by omega)
      · exact Or.inr ⟨n, by omega, hp, h⟩
    · exact Or.inr ⟨k, by omega, h2, h3⟩
theorem idx_cases {α : Type} [Inhabited α] (p : α → Bool) (zs : List α) : (Lib.idxBy (fun _ y => p y) zs default = -1 ∧ ∀ i, i < zs.length → p zs[i]! = false) ∨ ∃ i : Nat, i < zs.length ∧ Lib.idxBy (fun _ y => p y) zs default = (i : Int) ∧ p zs[i]! = true := by
  rcases first_hit p zs zs.length with h | ⟨k, h1, h2, h3⟩
  · left
    have := Lib.idxBy_miss (fun _ y => p y) zs zs.length default h
    rw [List.take_length] at this
    exact ⟨this, h⟩
  · right
    have := Lib.idxBy_hit (fun _ y => p y) zs zs.length k default h1 (Nat.le_refl _) h2 h3
    rw [List.take_length] at this
    exact ⟨k, h1, this, h2⟩
theorem tri_cells {w : World} {B : Nat} {g off cap : Nat} {b : Bs} (h : RowSl w B (.slice (some ⟨g, off, none⟩) b.n cap) 3 b.n (blkF b)) (h0 : 0 < b.n) : ∀ j, j < (tri b b.n).length → ∀ i v, (encT (tri b b.n)[j]!)[i]? = some v → w.cell? ⟨g, off + j * 3 + i, none⟩ = some v := by
  intro j hj i v hv
  rw [tri_len] at hj
  obtain ⟨g2, off2, cap2, e, _, _, _, _, _, hc⟩ := blk_row h h0
  obtain ⟨⟨rfl, rfl⟩, rfl⟩ : (g = g2 ∧ off = off2) ∧ cap = cap2 := by simpa using e
  rw [tri_get b _ j hj] at hv
  obtain ⟨c0, c1, c2⟩ := hc j hj
  rw [cell?_heap]
  match i, hv with
  | 0, hv => simp [encT] at hv; rw [← hv]; exact c0
  | 1, hv => simp [encT] at hv; rw [← hv]; exact c1
  | 2, hv => simp [encT] at hv; rw [← hv]; exact c2
  | i + 3, hv => simp [encT] at hv
set_option maxRecDepth 100000 in
set_option maxHeartbeats 1600000 in
theorem find_any {w : World} {B L : Nat} {v : Value} {W : Nat → Int} {b : Bs} (h : SlOf w B v 1 (L * 8) (wordF W)) (hb : b.Ok (L * 8)) (he : Enc W b) (off : Int) :
    Calls Tryz.prog 129 #[v, .int .i64 off] w fun e w' => ∃ (v' : Value) (r : Int), e = .returned (.tuple #[v', .int .i64 r]) ∧ RowSl w' w.heap.size v' 3 b.n (blkF b) ∧ Below w.heap.size w w' ∧
      ((r = -1 ∧ ∀ i, i < b.n → findP off (b.at i, b.sz i, b.us i) = false) ∨ ∃ i : Nat, i < b.n ∧ r = i ∧ findP off (b.at i, b.sz i, b.us i) = true) := by
  have hcn := hb.count
  have hb0 := (Below.refl w.heap.size w).alloc (Nat.le_refl _) (.cells #[.int .i64 off] 3)
  have K0 := Lib.hid (blocks_any (h.alloc (.cells #[.int .i64 off] 3)) hb he)
  obtain ⟨ao, cap, rfl⟩ := h.form
  have HC := Lib.hid hcn
  have hq : cellAt (obj (w.alloc (.cells #[.int .i64 off] 3)) w.heap.size) 0 = some (.int .i64 off) := by rw [newA]; rfl
  have HQ := Lib.hid hq
  have HB0 := Lib.hid hb0
  clear h hb he hcn hb0 hq
  go_enter Tryz.func129, Tryz.ntmps129
  go_wp2_with fail
  refine K0.out.mono ?_
  rintro _ w1 ⟨v', rfl, hr, hb1⟩
  have hcn := HC.out
  have hbw := HB0.out.trans (hb1.mono HB0.out.size)
  have hq1 : cellAt (obj w1 w.heap.size) 0 = some (.int .i64 off) := by rw [obj_below hb1 (lt_of_cell HQ.out)]; exact HQ.out
  have HR := Lib.hid (hr.mono (B' := w.heap.size) (by simp))
  obtain ⟨g, off0, cap0, rfl, _, _, _, hg, _, _⟩ := blk_row hr (by omega)
  have eg : ∀ args w, (callFunc 152 args).run Tryz.prog w = .ok (.enter 152 args) w := enters_of Tryz.func152 (by kernel_rfl) rfl
  have KI : Calls Tryz.prog 151 #[.slice (some ⟨g, off0, none⟩) b.n cap0, .func (.func 152) #[] #[.pointer (some ⟨w.heap.size, 0, none⟩)]] w1 _ :=
    AnyQ.slices_IndexFunc Tryz.laysIF 3 Tryz.isAgg45 size45 encT (fun _ => rfl) (findP off) 152 #[.pointer (some ⟨w.heap.size, 0, none⟩)] eg g off0 b.n cap0 (tri b b.n) w1 (find1_pred off w.heap.size w1 hq1) (by rw [tri_len]; exact Nat.le_refl _) (by omega) hg (tri_cells hr (by omega))
  rw [List.take_of_length_le (by rw [tri_len]; exact Nat.le_refl _)] at KI
  have KI := Lib.hid KI
  have HBW := Lib.hid hbw
  clear hr hb1 hcn hbw hq1 K0 hg
  go_wp2_with fail
  refine KI.out.mono ?_
  rintro _ w2 ⟨rfl, hb2⟩
  have HR2 := Lib.hid (HR.out.below hb2)
  have HB2 := Lib.hid (HBW.out.trans (hb2.mono HBW.out.size))
  have HI := Lib.hid (idx_cases (findP off) (tri b b.n))
  generalize Lib.idxBy (fun _ y => findP off y) (tri b b.n) default = r at HI ⊢
  clear hb2 KI
  go_wp2_with fail
  go_ret2
  refine ⟨_, r, rfl, HR2.out, HB2.out, ?_⟩
  rcases HI.out with ⟨h1, h2⟩ | ⟨i, h1, h2, h3⟩
  · exact Or.inl ⟨h1, fun i hi => by have := h2 i (by rw [tri_len]; exact hi); rw [tri_get b _ i hi] at this; exact this⟩
  · rw [tri_len] at h1
    rw [tri_get b _ i h1] at h3
    exact Or.inr ⟨i, h1, h2, h3⟩
end Go.Proofs.YtphmfaddgpjndaaGreat

/- image.Is, image.Holds, image.holds. -/
namespace Go.Proofs.YtphmfaddgpjndaaGreat
open Go.ChangeShapes Go.WideShapes Go.RowKit
open Go.Shelf

theorem wrapEq' (x : Int) : IntKind.i64.wrap x = Go.RowKit.wrap64 x := by unfold Go.RowKit.wrap64; exact IntKind.wrap_i64 x
def holdsP (off n : Int) (x : Nat × Nat × Bool) : Bool := x.2.2 && (decide ((offN x.1 : Int) ≤ off) && decide (off ≤ IntKind.i64.wrap (IntKind.i64.wrap (IntKind.i64.wrap ((x.1 : Int) + (x.2.1 : Int)) * 8) - n)))
set_option maxRecDepth 100000 in
set_option maxHeartbeats 1600000 in
theorem holds1_any (a s : Nat) (u : Bool) (off n : Int) (H1 H2 : Nat) (w : World) (hH : cellAt (obj w H1) 0 = some (.int .i64 off)) (hG : cellAt (obj w H2) 0 = some (.int .i64 n)) :
    Calls Tryz.prog 171 #[.agg #[.int .i64 a, .int .i64 s, .bool u], .pointer (some ⟨H1, 0, none⟩), .pointer (some ⟨H2, 0, none⟩)] w fun e w' => e = .returned (.bool (holdsP off n (a, s, u))) ∧ Below w.heap.size w w' := by
  unfold holdsP
  simp only []
  have hlt := lt_of_cell hH
  have hltG := lt_of_cell hG
  have HB : Hid (Below w.heap.size w (w.alloc (.cells #[.int .i64 a, .int .i64 s, .bool u] 45))) := Lib.hid ((Below.refl _ _).alloc (Nat.le_refl _) _)
  have hq := newA w (.cells #[.int .i64 a, .int .i64 s, .bool u] 45)
  have hql := lt_of_obj hq
  have hH2 : cellAt (obj (w.alloc (.cells #[.int .i64 a, .int .i64 s, .bool u] 45)) H1) 0 = some (.int .i64 off) := by rw [obj_alloc_past w _ H1 hlt]; exact hH
  have hG2 : cellAt (obj (w.alloc (.cells #[.int .i64 a, .int .i64 s, .bool u] 45)) H2) 0 = some (.int .i64 n) := by rw [obj_alloc_past w _ H2 hltG]; exact hG
  have hlt2 := lt_of_cell hH2
  have hltG2 := lt_of_cell hG2
  have KO := Lib.hid (fun w => off_all a s u w)
  generalize offN a = o at KO ⊢
  cases u
  · go_enter Tryz.func171, Tryz.ntmps171
    go_wp2_with fail
    go_big_quiet (fail)
    go_wp2_with fail
    go_ret
    exact ⟨rfl, HB.out.os, HB.out.tape, HB.out.output, HB.out.size, HB.out.block⟩
  · by_cases hge : (o : Int) ≤ off
    · have d1 : off ≥ (o : Int) := hge
      have e1 : decide ((o : Int) ≤ off) = true := decide_eq_true hge
      rw [e1]
      go_enter Tryz.func171, Tryz.ntmps171
      go_wp2_with fail
      refine wp_region_more (by kernel_rfl) (by kernel_rfl) ?_
      repeat (go_big_quiet_step ((go_at_call 135; exact more_call (KO.out _))))
      refine wpQuiet_nil ?_
      intro _ hw'
      obtain ⟨x, hw''⟩ := hw'
      subst hw''
      have HB2 := Lib.hid (HB.out.trans ((more_below _ x).mono HB.out.size))
      go_wp2_with fail
      go_ret
      exact ⟨by simp [wrapEq'], HB2.out⟩
    · have d1 : ¬ off ≥ (o : Int) := hge
      have e1 : decide ((o : Int) ≤ off) = false := decide_eq_false hge
      rw [e1]
      go_enter Tryz.func171, Tryz.ntmps171
      go_wp2_with fail
      have d2 : ¬ (o : Int) ≤ off := by omega
      refine wp_region_more (by kernel_rfl) (by kernel_rfl) ?_
      repeat (go_big_quiet_step ((go_at_call 135; exact more_call (KO.out _))))
      refine wpQuiet_nil ?_
      intro _ hw'
      obtain ⟨x, hw''⟩ := hw'
      subst hw''
      have HB2 := Lib.hid (HB.out.trans ((more_below _ x).mono HB.out.size))
      go_wp2_with fail
      go_ret
      exact ⟨by simp, HB2.out⟩
theorem holds1_pred (off n : Int) (H1 H2 : Nat) (w : World) (hH : cellAt (obj w H1) 0 = some (.int .i64 off)) (hG : cellAt (obj w H2) 0 = some (.int .i64 n)) : PredBelow Tryz.prog 171 #[.pointer (some ⟨H1, 0, none⟩), .pointer (some ⟨H2, 0, none⟩)] (fun x => .agg (encT x).toArray) (holdsP off n) w := fun W x hb =>
  (holds1_any x.1 x.2.1 x.2.2 off n H1 H2 W (by rw [obj_below hb (lt_of_cell hH)]; exact hH) (by rw [obj_below hb (lt_of_cell hG)]; exact hG)).mono fun _ _ ⟨he, h2⟩ => ⟨he, hb.trans (h2.mono hb.size)⟩
/-- bytes are within a used block -/
def holdsN (b : Bs) (off n : Int) : Bool := decide (0 ≤ n ∧ n ≤ 448) && (tri b b.n).any (holdsP off n)
set_option maxRecDepth 100000 in
set_option maxHeartbeats 1600000 in
theorem holdsB_any {w : World} {B L : Nat} {v : Value} {W : Nat → Int} {b : Bs} (h : SlOf w B v 1 (L * 8) (wordF W)) (hb : b.Ok (L * 8)) (he : Enc W b) (off n : Int) :
    Calls Tryz.prog 164 #[v, .int .i64 off, .int .i64 n] w fun e w' => e = .returned (.bool (holdsN b off n)) ∧ Below w.heap.size w w' := by
  have hcn := hb.count
  have hb0 := ((Below.refl w.heap.size w).alloc (Nat.le_refl _) (.cells #[.int .i64 off] 3)).alloc (by simp) (.cells #[.int .i64 n] 3)
  have K0 := Lib.hid (blocks_any ((h.alloc (.cells #[.int .i64 off] 3)).alloc (.cells #[.int .i64 n] 3)) hb he)
  obtain ⟨ao, cap, rfl⟩ := h.form
  have HC := Lib.hid hcn
  have hq : cellAt (obj ((w.alloc (.cells #[.int .i64 off] 3)).alloc (.cells #[.int .i64 n] 3)) w.heap.size) 0 = some (.int .i64 off) := by rw [obj_alloc_past _ _ _ (by simp), newA]; rfl
  have hq2 : cellAt (obj ((w.alloc (.cells #[.int .i64 off] 3)).alloc (.cells #[.int .i64 n] 3)) (w.heap.size + 1)) 0 = some (.int .i64 n) := by rw [obj_alloc_at _ _ _ (by simp)]; rfl
  have HQ := Lib.hid (And.intro hq hq2)
  have HB0 := Lib.hid hb0
  clear h hb he hcn hb0
  unfold holdsN
  by_cases h1 : n < 0
  · rw [show decide (0 ≤ n ∧ n ≤ 448) = false from decide_eq_false (by omega), Bool.false_and]
    have hs1 := lt_of_cell hq
    have hs2 := lt_of_cell hq2
    go_enter Tryz.func164, Tryz.ntmps164
    go_wp2_with fail
    go_ret
    exact ⟨rfl, HB0.out⟩
  · by_cases h2 : n > 448
    · rw [show decide (0 ≤ n ∧ n ≤ 448) = false from decide_eq_false (by omega), Bool.false_and]
      have hs1 := lt_of_cell hq
      have hs2 := lt_of_cell hq2
      go_enter Tryz.func164, Tryz.ntmps164
      go_wp2_with fail
      go_ret
      exact ⟨rfl, HB0.out⟩
    · rw [show decide (0 ≤ n ∧ n ≤ 448) = true from decide_eq_true (by omega), Bool.true_and]
      obtain ⟨r, hr0⟩ : ∃ r, (tri b b.n).any (holdsP off n) = r := ⟨_, rfl⟩
      rw [hr0]
      have HR0 := Lib.hid hr0
      clear hr0
      have hs1 := lt_of_cell hq
      have hs2 := lt_of_cell hq2
      go_enter Tryz.func164, Tryz.ntmps164
      go_wp2_with fail
      refine K0.out.mono ?_
      rintro _ w1 ⟨v', rfl, hr, hb1⟩
      have hcn := HC.out
      have hbw := HB0.out.trans (hb1.mono HB0.out.size)
      have hq1 : cellAt (obj w1 w.heap.size) 0 = some (.int .i64 off) := by rw [obj_below hb1 (lt_of_cell HQ.out.1)]; exact HQ.out.1
      have hq2 : cellAt (obj w1 (w.heap.size + 1)) 0 = some (.int .i64 n) := by rw [obj_below hb1 (lt_of_cell HQ.out.2)]; exact HQ.out.2
      obtain ⟨g, off0, cap0, rfl, _, _, _, hg, _, _⟩ := blk_row hr (by omega)
      have eg : ∀ args w, (callFunc 171 args).run Tryz.prog w = .ok (.enter 171 args) w := enters_of Tryz.func171 (by kernel_rfl) rfl
      have KI : Calls Tryz.prog 170 #[.slice (some ⟨g, off0, none⟩) b.n cap0, .func (.func 171) #[] #[.pointer (some ⟨w.heap.size, 0, none⟩), .pointer (some ⟨w.heap.size + 1, 0, none⟩)]] w1 _ :=
        AnyQ.slices_ContainsFunc Tryz.laysCF 3 Tryz.isAgg45 size45 encT (fun _ => rfl) (holdsP off n) 171 #[.pointer (some ⟨w.heap.size, 0, none⟩), .pointer (some ⟨w.heap.size + 1, 0, none⟩)] eg g off0 b.n cap0 (tri b b.n) w1 (holds1_pred off n w.heap.size (w.heap.size + 1) w1 hq1 hq2) (by rw [tri_len]; exact Nat.le_refl _) (by omega) hg (tri_cells hr (by omega))
      rw [List.take_of_length_le (by rw [tri_len]; exact Nat.le_refl _)] at KI
      rw [HR0.out] at KI
      have KI := Lib.hid KI
      have HBW := Lib.hid hbw
      clear hr hb1 hcn hbw hq1 K0 hg hq hq2
      go_wp2_with fail
      refine KI.out.mono ?_
      rintro _ w2 ⟨rfl, hb2⟩
      have HB2 := Lib.hid (HBW.out.trans (hb2.mono HBW.out.size))
      clear hb2 KI
      go_wp2_with fail
      go_ret
      exact ⟨rfl, HB2.out⟩
set_option maxRecDepth 100000 in
set_option maxHeartbeats 1600000 in
theorem holds_any {w : World} {B L : Nat} {v : Value} {W : Nat → Int} {b : Bs} (h : SlOf w B v 1 (L * 8) (wordF W)) (hb : b.Ok (L * 8)) (he : Enc W b) (off n : Int) :
    Calls Tryz.prog 141 #[v, .int .i64 off, .int .i64 n] w fun e w' => e = .returned (.int .i64 (if holdsN b off n = true then 0 else 1)) ∧ Below w.heap.size w w' := by
  have K0 := Lib.hid (blocks_any h hb he)
  have K1 := Lib.hid (fun w1 (hb1 : Below w.heap.size w w1) => holdsB_any (h.below hb1) hb he off n)
  obtain ⟨ao, cap, rfl⟩ := h.form
  obtain ⟨r, hr0⟩ : ∃ r, holdsN b off n = r := ⟨_, rfl⟩
  rw [hr0] at K1 ⊢
  clear h hb he hr0
  cases r
  · go_enter Tryz.func141, Tryz.ntmps141
    go_wp2_with fail
    refine K0.out.mono ?_
    rintro _ w1 ⟨v', rfl, _, hb1⟩
    have K2 := Lib.hid (K1.out w1 hb1)
    have HB1 := Lib.hid hb1
    clear hb1
    go_wp2_with fail
    refine K2.out.mono ?_
    rintro _ w2 ⟨rfl, hb2⟩
    have HB2 := Lib.hid (HB1.out.trans (hb2.mono HB1.out.size))
    clear hb2
    go_wp2_with fail
    go_ret
    exact ⟨rfl, HB2.out⟩
  · go_enter Tryz.func141, Tryz.ntmps141
    go_wp2_with fail
    refine K0.out.mono ?_
    rintro _ w1 ⟨v', rfl, _, hb1⟩
    have K2 := Lib.hid (K1.out w1 hb1)
    have HB1 := Lib.hid hb1
    clear hb1
    go_wp2_with fail
    refine K2.out.mono ?_
    rintro _ w2 ⟨rfl, hb2⟩
    have HB2 := Lib.hid (HB1.out.trans (hb2.mono HB1.out.size))
    clear hb2
    go_wp2_with fail
    go_ret
    exact ⟨rfl, HB2.out⟩
set_option maxHeartbeats 800000 in
theorem is_any {w : World} {B L : Nat} {v : Value} {W : Nat → Int} {b : Bs} (h : SlOf w B v 1 (L * 8) (wordF W)) (hb : b.Ok (L * 8)) (he : Enc W b) (off : Int) :
    Calls Tryz.prog 99 #[v, .int .i64 off] w fun e w' => ∃ r : Bool, e = .returned (.bool r) ∧ Below w.heap.size w w' ∧ (r = true → ∃ i : Nat, i < b.n ∧ findP off (b.at i, b.sz i, b.us i) = true) ∧ (r = false → ∀ i, i < b.n → findP off (b.at i, b.sz i, b.us i) = false) := by
  have K0 := Lib.hid (find_any h hb he off)
  obtain ⟨ao, cap, rfl⟩ := h.form
  clear h hb he
  go_enter Tryz.func99, Tryz.ntmps99
  go_wp2_with fail
  refine K0.out.mono ?_
  rintro _ w1 ⟨v', r, rfl, _, hb1, hr⟩
  have HB1 := Lib.hid hb1
  clear hb1 K0
  rcases hr with ⟨rfl, h⟩ | ⟨i, hi, rfl, h⟩
  · have H := Lib.hid h
    clear h
    go_wp2_with fail
    go_ret
    exact ⟨false, rfl, HB1.out, (fun h => by cases h), fun _ => H.out⟩
  · have H := Lib.hid (And.intro hi h)
    have d1 : (i : Int) ≥ 0 := by omega
    clear h hi
    go_wp2_with fail
    go_ret
    exact ⟨true, rfl, HB1.out, fun _ => ⟨i, H.out⟩, (fun h => by cases h)⟩
end Go.Proofs.YtphmfaddgpjndaaGreat

/- image.Alloc. -/
namespace Go.Proofs.YtphmfaddgpjndaaGreat
open Go.ChangeShapes Go.WideShapes Go.RowKit

theorem needN_two (n : Int) (h : needN n ≠ 0) : 2 ≤ needN n ∧ needN n ≤ 57 := by
  unfold needN at h ⊢
  by_cases hc : 1 ≤ n ∧ n ≤ 448
  · rw [if_pos hc]; omega
  · exact absurd (if_neg hc) h
/-- what is told of a block that is taken -/
structure Taken (b : Bs) (need : Nat) (w : World) (B : Nat) (v : Value) (o : Int) (k : Nat) : Prop where
  lt : k < b.n
  fit : fits b need k
  least : ∀ j, j < b.n → fits b need j → b.sz k ≤ b.sz j
  off : o = ((b.at k + 1) * 8 : Nat)
  sl : RowSl w B v 2 (carC (takesN (b.sz k) need) (takM (b.sz k) (takesN (b.sz k) need))) (edF (carA (b.at k)) (carV (b.sz k) (takesN (b.sz k) need)))
set_option maxRecDepth 100000 in
set_option maxHeartbeats 3200000 in
theorem ialloc_any {w : World} {B L c : Nat} {v vc : Value} {W cf : Nat → Int} {b : Bs} (h : SlOf w B v 1 (L * 8) (wordF W)) (hb : b.Ok (L * 8)) (he : Enc W b) (hc : SlOf w B vc 1 c (intF cf)) (n : Int) :
    Calls Tryz.prog 109 #[v, .int .i64 n, vc] w fun e w' => ∃ (v' : Value) (o e' : Int), e = .returned (.tuple #[v', .int .i64 o, .int .i64 e']) ∧ Below w.heap.size w w' ∧
      ((needN n = 0 ∧ e' = 1) ∨ (needN n ≠ 0 ∧ e' = 4 ∧ ∀ j, j < b.n → ¬ fits b (needN n) j) ∨ (needN n ≠ 0 ∧ e' = 0 ∧ ∃ k, Taken b (needN n) w' w.heap.size v' o k)) := by
  have K0 := Lib.hid (need_any n)
  have K1 := Lib.hid (blocks_any h hb he)
  obtain ⟨ao, cap, rfl⟩ := h.form
  obtain ⟨aoc, capc, evc⟩ := hc.form
  subst evc
  have HNT := Lib.hid (needN_two n)
  have HC := Lib.hid hb.count
  have HB := Lib.hid hb
  have HCT := Lib.hid hc
  obtain ⟨need, hneed⟩ : ∃ need, needN n = need := ⟨_, rfl⟩
  rw [hneed] at K0 HNT ⊢
  clear h hb he hc hneed
  by_cases hn0 : need = 0
  · subst hn0
    clear K1
    go_enter Tryz.func109, Tryz.ntmps109
    go_wp2_with fail
    refine (K0.out _).mono ?_
    rintro _ _ ⟨rfl, rfl⟩
    go_wp2_with fail
    go_ret3
    exact ⟨_, _, _, rfl, Below.refl _ _, Or.inl (by simp)⟩
  · have hz : ((need : Int) == 0) = false := by simp; omega
    have hz2 : ¬ (need : Int) = 0 := by omega
    have HN0 := Lib.hid hn0
    clear hn0
    go_enter Tryz.func109, Tryz.ntmps109
    go_wp2_with fail
    refine (K0.out _).mono ?_
    rintro _ _ ⟨rfl, rfl⟩
    go_wp2_with fail
    refine K1.out.mono ?_
    rintro _ w1 ⟨v', rfl, hr, hb1⟩
    have hcn := HC.out
    have KCH := Lib.hid (choose_any (need := need) (B := 0) (hr.mono (Nat.zero_le _)) ((HCT.out.below hb1).mono (Nat.zero_le _)) HB.out (HNT.out HN0.out).1 (by have := (HNT.out HN0.out).2; omega))
    obtain ⟨g, off, capv, rfl, _, _, _, hg, hrow, hcells⟩ := blk_row hr (by omega)
    have HCELL := Lib.hid hcells
    have HR := Lib.hid hr
    have HB1 := Lib.hid hb1
    have HROW := Lib.hid hrow
    have HG := Lib.hid hg
    clear hr hb1 hrow hg K0 K1 hcn hcells
    go_wp2_with fail
    refine KCH.out.mono ?_
    rintro _ w2 ⟨r, rfl, hb2, hch⟩
    have HB2 := Lib.hid hb2
    clear KCH
    rcases hch with ⟨rfl, hno⟩ | ⟨k, rfl, hk, hfit, hleast⟩
    · have HNO := Lib.hid hno
      clear hno hb2
      go_wp2_with fail
      go_ret3
      exact ⟨_, _, _, rfl, HB1.out.trans (HB2.out.mono HB1.out.size), Or.inr (Or.inl ⟨HN0.out, by simp, HNO.out⟩)⟩
    · have k0 : ¬ (k : Int) < 0 := by omega
      have k1 : (0 : Int) ≤ (k : Int) := by omega
      have k2 : (k : Int) < (b.n : Int) := by omega
      have hrk := HROW.out k hk
      obtain ⟨hc0, hc1, hc2⟩ := HCELL.out k hk
      rw [← obj_below hb2 HG.out] at hrk hc0 hc1 hc2
      have hg2 : g < w2.heap.size := by have := hb2.size; have := HG.out; omega
      have hlt := HB.out.lt hk
      have hbig := HB.out.big
      have KE := Lib.hid (fun W (hw : Below w2.heap.size w2 W) => cedits_any ((HR.out.below hb2).below hw) HB.out hk hfit.1 ⟨(HNT.out HN0.out).1, hfit.2⟩)
      have KO := Lib.hid (fun W => off_any (b.at k) (b.sz k) (b.us k) (by omega) W)
      have HK := Lib.hid (And.intro hk (And.intro hfit hleast))
      obtain ⟨o, ho⟩ : ∃ o, (b.at k + 1) * 8 = o := ⟨_, rfl⟩
      rw [ho] at KO
      have HOF := Lib.hid ho
      have HB12 := Lib.hid (HB1.out.trans (hb2.mono HB1.out.size))
      generalize b.at k = z at hrk hc0 KO
      generalize b.sz k = s at hrk hc1 KO
      generalize b.us k = u at hrk hc2 KO
      clear hrk
      clear hb2 hk hfit hleast ho hlt hbig
      go_wp2_with fail
      go_region_held3 (fun w' => cellAt (obj w' g) (off + k * 3) = some (.int .i64 z) ∧ cellAt (obj w' g) (off + k * 3 + 1) = some (.int .i64 s) ∧ cellAt (obj w' g) (off + k * 3 + 2) = some (.bool u))
        (first
          | exact ⟨hc0, hc1, hc2⟩
          | (rw [obj_below hbE (show g < w2.heap.size from hg2)]; exact ⟨hc0, hc1, hc2⟩)
          | (rw [obj_below hbO (show g < w2.heap.size from hg2)]; exact ⟨hc0, hc1, hc2⟩)
          | (rw [obj_below hbO (Nat.lt_of_lt_of_le hg2 hbE.size), obj_below hbE (show g < w2.heap.size from hg2)]; exact ⟨hc0, hc1, hc2⟩)
          | (rw [obj_below hbE (Nat.lt_of_lt_of_le hg2 hbO.size), obj_below hbO (show g < w2.heap.size from hg2)]; exact ⟨hc0, hc1, hc2⟩))
        (first
          | (go_at_call 134; refine (KE.out _ (by first | exact (Below.refl _ _).drew | exact hbO)).mono ?_; rintro _ wE ⟨vE, rfl, hrE, hbE⟩)
          | (go_at_call 135; refine (KO.out _).mono ?_; rintro _ wO ⟨rfl, hbO⟩))
      have HBE : Hid (Below w.heap.size w wO) := Lib.hid (by
        have q1 : Below w2.heap.size w2 wE := ⟨hbE.os, hbE.tape, hbE.output, hbE.size, hbE.block⟩
        have q2 := q1.trans (hbO.mono hbE.size)
        exact HB12.out.trans (q2.mono HB12.out.size))
      have HSL := Lib.hid ((hrE.below hbO).mono (B' := w.heap.size) HB12.out.size)
      clear hbE hbO hrE hc0 hc1 hc2
      go_wp2_with fail
      go_ret3
      exact ⟨_, _, _, rfl, HBE.out, Or.inr (Or.inr ⟨HN0.out, by simp, k, ⟨HK.out.1, HK.out.2.1, HK.out.2.2, by rw [HOF.out], HSL.out⟩⟩)⟩
end Go.Proofs.YtphmfaddgpjndaaGreat

/- image.Free, image.Read, image.Write. -/
namespace Go.Proofs.YtphmfaddgpjndaaGreat
open Go.ChangeShapes Go.WideShapes Go.RowKit

theorem findP_used {b : Bs} {off : Int} {i : Nat} (h : findP off (b.at i, b.sz i, b.us i) = true) : b.us i = true ∧ (offN (b.at i) : Int) = off := by
  unfold findP at h
  simpa using h
set_option maxRecDepth 100000 in
set_option maxHeartbeats 1600000 in
theorem ifree_any {w : World} {B L : Nat} {v : Value} {W : Nat → Int} {b : Bs} (h : SlOf w B v 1 (L * 8) (wordF W)) (hb : b.Ok (L * 8)) (he : Enc W b) (off : Int) :
    Calls Tryz.prog 112 #[v, .int .i64 off] w fun e w' => ∃ (v' : Value) (e' : Int), e = .returned (.tuple #[v', .int .i64 e']) ∧ Below w.heap.size w w' ∧
      ((e' = 1 ∧ ∀ i, i < b.n → findP off (b.at i, b.sz i, b.us i) = false) ∨ (e' = 0 ∧ ∃ i, i < b.n ∧ findP off (b.at i, b.sz i, b.us i) = true ∧
        RowSl w' w.heap.size v' 2 1 (edF (carA (b.at (fromM b i))) (fun _ => (hdr (b.at (toM b i) - b.at (fromM b i)) false : Nat))))) := by
  have K0 := Lib.hid (find_any h hb he off)
  obtain ⟨ao, cap, rfl⟩ := h.form
  have HB := Lib.hid hb
  have hcn := hb.count
  have n0 : ((b.n : Int) == 0) = false := by simp; omega
  have n1 : ¬ (b.n : Int) = 0 := by omega
  clear h hb he hcn
  go_enter Tryz.func112, Tryz.ntmps112
  go_wp2_with fail
  refine K0.out.mono ?_
  rintro _ w1 ⟨v', r, rfl, hr, hb1, hf⟩
  have HB1 := Lib.hid hb1
  have HR := Lib.hid hr
  obtain ⟨ao1, cap1, rfl⟩ := hr.form
  clear hb1 hr K0
  rcases hf with ⟨rfl, hno⟩ | ⟨i, hi, rfl, hyes⟩
  · have HNO := Lib.hid hno
    have KM := Lib.hid (medit_none HR.out HB.out)
    clear hno
    go_wp2_with fail
    refine KM.out.mono ?_
    rintro _ w2 ⟨rfl, hb2⟩
    have HB2 := Lib.hid (HB1.out.trans (hb2.mono HB1.out.size))
    clear hb2 KM
    go_wp2_with fail
    go_ret2
    exact ⟨_, _, rfl, HB2.out.alloc HB2.out.size _, Or.inl ⟨rfl, HNO.out⟩⟩
  · have HY := Lib.hid (And.intro hi hyes)
    have KM := Lib.hid (medit_any HR.out HB.out hi (findP_used hyes).1)
    obtain ⟨x, hx⟩ : ∃ x, b.at (fromM b i) = x := ⟨_, rfl⟩
    obtain ⟨y, hy⟩ : ∃ y, hdr (b.at (toM b i) - b.at (fromM b i)) false = y := ⟨_, rfl⟩
    rw [hy, hx] at KM
    have HXY := Lib.hid (And.intro hx hy)
    clear hi hyes hx hy
    go_wp2_with fail
    refine KM.out.mono ?_
    rintro _ w2 ⟨rfl, hb2⟩
    have HB2 := Lib.hid (HB1.out.trans (hb2.mono HB1.out.size))
    clear hb2 KM
    go_wp2_with fail
    go_ret2
    have h1 := (HB2.out.alloc HB2.out.size (.cells #[.int .i64 x, .int .u64 y] 147))
    have h2 := h1.alloc h1.size (.cells #[.int .i64 x, .int .u64 y] 147)
    refine ⟨_, _, rfl, h2, Or.inr ⟨rfl, i, HY.out.1, HY.out.2, ?_⟩⟩
    rw [HXY.out.2, HXY.out.1]
    refine own_row (e := 147) ?_ (fun e => by omega)
    have hq := newA (w2.alloc (.cells #[.int .i64 x, .int .u64 y] 147)) (.cells #[.int .i64 x, .int .u64 y] 147)
    exact fresh_own (c := #[.int .i64 x, .int .u64 y]) (by simpa using hq) rfl (by have := HB2.out.size; omega)
end Go.Proofs.YtphmfaddgpjndaaGreat

/- image.Read, image.Write. -/
namespace Go.Proofs.YtphmfaddgpjndaaGreat
open Go.ChangeShapes Go.WideShapes Go.RowKit

theorem holdsP_iff {b : Bs} {N : Nat} (hb : b.Ok N) {off n : Int} (hn : 0 ≤ n ∧ n ≤ 448) {i : Nat} (hi : i < b.n) :
    holdsP off n (b.at i, b.sz i, b.us i) = true ↔ b.us i = true ∧ (((b.at i + 1) * 8 : Nat) : Int) ≤ off ∧ off ≤ (((b.at i + b.sz i) * 8 : Nat) : Int) - n := by
  have h1 := hb.le hi
  have h2 := hb.big
  have h3 : offN (b.at i) = (b.at i + 1) * 8 := by unfold offN; rw [if_pos (by omega)]
  have w1 : IntKind.i64.wrap ((b.at i : Int) + (b.sz i : Int)) = (b.at i : Int) + (b.sz i : Int) := by rw [IntKind.wrap_i64]; omega
  have w2 : IntKind.i64.wrap (((b.at i : Int) + (b.sz i : Int)) * 8) = ((b.at i : Int) + (b.sz i : Int)) * 8 := by rw [IntKind.wrap_i64]; omega
  have w3 : IntKind.i64.wrap (((b.at i : Int) + (b.sz i : Int)) * 8 - n) = ((b.at i : Int) + (b.sz i : Int)) * 8 - n := by rw [IntKind.wrap_i64]; omega
  unfold holdsP
  simp only [h3, w1, w2, w3, Bool.and_eq_true, decide_eq_true_eq]
  have e1 : (((b.at i + b.sz i) * 8 : Nat) : Int) = ((b.at i : Int) + (b.sz i : Int)) * 8 := by omega
  rw [e1]
theorem holdsN_iff {b : Bs} {N : Nat} (hb : b.Ok N) {off n : Int} :
    holdsN b off n = true ↔ (0 ≤ n ∧ n ≤ 448) ∧ ∃ i, i < b.n ∧ b.us i = true ∧ (((b.at i + 1) * 8 : Nat) : Int) ≤ off ∧ off ≤ (((b.at i + b.sz i) * 8 : Nat) : Int) - n := by
  unfold holdsN
  rw [Bool.and_eq_true, decide_eq_true_eq, List.any_eq_true]
  constructor
  · rintro ⟨h1, x, hx, hp⟩
    refine ⟨h1, ?_⟩
    unfold tri at hx
    rw [List.mem_map] at hx
    obtain ⟨i, hi, rfl⟩ := hx
    rw [List.mem_range] at hi
    exact ⟨i, hi, (holdsP_iff hb h1 hi).1 hp⟩
  · rintro ⟨h1, i, hi, hp⟩
    refine ⟨h1, (b.at i, b.sz i, b.us i), ?_, (holdsP_iff hb h1 hi).2 hp⟩
    unfold tri
    rw [List.mem_map]
    exact ⟨i, List.mem_range.2 hi, rfl⟩
theorem holdsN_bound {b : Bs} {N : Nat} (hb : b.Ok N) {off n : Int} (h : holdsN b off n = true) : ∃ o k : Nat, off = o ∧ n = k ∧ 8 ≤ o ∧ o + k ≤ N * 8 ∧ k ≤ 448 := by
  obtain ⟨h1, i, hi, _, h2, h3⟩ := (holdsN_iff hb).1 h
  have := hb.le hi
  exact ⟨off.toNat, n.toNat, by omega, by omega, by omega, by omega, by omega⟩
set_option maxRecDepth 100000 in
set_option maxHeartbeats 1600000 in
theorem iread_any {w : World} {B L : Nat} {v : Value} {W : Nat → Int} {b : Bs} (h : SlOf w B v 1 (L * 8) (wordF W)) (hb : b.Ok (L * 8)) (he : Enc W b) (hW : ∀ i, i < L * 8 → 0 ≤ W i ∧ W i < 18446744073709551616) (off n : Int) :
    Calls Tryz.prog 113 #[v, .int .i64 off, .int .i64 n] w fun e w' => ∃ (v' : Value) (e' : Int), e = .returned (.tuple #[v', .int .i64 e']) ∧ Below w.heap.size w w' ∧
      ((holdsN b off n = false ∧ e' = 1) ∨ (holdsN b off n = true ∧ e' = 0 ∧ SlOf w' w.heap.size v' 1 n.toNat (fun i _ => .int .u8 (byteW W (off.toNat + i))))) := by
  have K0 := Lib.hid (holds_any h hb he off n)
  cases hr : holdsN b off n
  · rw [hr] at K0
    obtain ⟨ao, cap, rfl⟩ := h.form
    clear h hb he hW hr
    go_enter Tryz.func113, Tryz.ntmps113
    go_wp2_with fail
    refine K0.out.mono ?_
    rintro _ w1 ⟨rfl, hb1⟩
    have HB1 := Lib.hid hb1
    clear hb1 K0
    go_wp2_with fail
    go_ret2
    exact ⟨_, _, rfl, HB1.out, Or.inl ⟨trivial, by simp⟩⟩
  · rw [hr] at K0
    obtain ⟨o, k, rfl, rfl, h8, hok, hk⟩ := holdsN_bound hb hr
    have hbig := hb.big
    have KR := Lib.hid (fun w1 (hb1 : Below w.heap.size w w1) => read_any (off := o) (n := k) (h.below hb1) ⟨hbig.1, hbig.2.1⟩ (by omega) hk hW)
    obtain ⟨ao, cap, rfl⟩ := h.form
    clear h hb he hW hr h8 hok hk hbig
    go_enter Tryz.func113, Tryz.ntmps113
    go_wp2_with fail
    refine K0.out.mono ?_
    rintro _ w1 ⟨rfl, hb1⟩
    have KR1 := Lib.hid (KR.out w1 hb1)
    have HB1 := Lib.hid hb1
    clear hb1 K0 KR
    go_wp2_with fail
    refine KR1.out.mono ?_
    rintro _ w2 ⟨v2, rfl, hs, hb2⟩
    have HS := Lib.hid (hs.mono (B' := w.heap.size) HB1.out.size)
    have HB2 := Lib.hid (HB1.out.trans (hb2.mono HB1.out.size))
    clear hs hb2 KR1 HB1
    go_wp2_with fail
    go_ret2
    exact ⟨_, _, rfl, HB2.out, Or.inr ⟨trivial, by simp, HS.out⟩⟩
set_option maxRecDepth 100000 in
set_option maxHeartbeats 1600000 in
theorem iwrite_any {w : World} {B B2 L n : Nat} {v vb : Value} {W c : Nat → Int} {b : Bs} (h : SlOf w B v 1 (L * 8) (wordF W)) (hb : b.Ok (L * 8)) (he : Enc W b) (hvb : SlOf w B2 vb 1 n (fun i _ => .int .u8 (c i))) (hc : ∀ k, k < n → 0 ≤ c k ∧ c k < 256) (off : Int) :
    Calls Tryz.prog 114 #[v, .int .i64 off, vb] w fun e w' => ∃ (v' : Value) (e' : Int), e = .returned (.tuple #[v', .int .i64 e']) ∧ Below w.heap.size w w' ∧
      ((holdsN b off n = false ∧ e' = 1) ∨ (holdsN b off n = true ∧ e' = 0 ∧ RowSl w' w.heap.size v' 2 (lineN off.toNat n) (edF (fun j => off.toNat / 8 + j) (fun j => wrote W off.toNat c n (off.toNat / 8 + j))))) := by
  have K0 := Lib.hid (holds_any h hb he off n)
  cases hr : holdsN b off n
  · rw [hr] at K0
    obtain ⟨ao, cap, rfl⟩ := h.form
    obtain ⟨aob, capb, rfl⟩ := hvb.form
    clear h hb he hr hvb hc
    go_enter Tryz.func114, Tryz.ntmps114
    go_wp2_with fail
    refine K0.out.mono ?_
    rintro _ w1 ⟨rfl, hb1⟩
    have HB1 := Lib.hid hb1
    clear hb1 K0
    go_wp2_with fail
    go_ret2
    exact ⟨_, _, rfl, HB1.out, Or.inl ⟨trivial, by simp⟩⟩
  · rw [hr] at K0
    obtain ⟨o, k, rfl, hk1, h8, hok, hk⟩ := holdsN_bound hb hr
    obtain rfl : n = k := by omega
    have hbig := hb.big
    have KR := Lib.hid (fun w1 (hb1 : Below w.heap.size w w1) => sedits_any (off := o) (n := n) (h.below hb1) (hvb.below hb1) ⟨hbig.1, hbig.2.1⟩ (by omega) hk hc)
    obtain ⟨ao, cap, rfl⟩ := h.form
    obtain ⟨aob, capb, rfl⟩ := hvb.form
    clear h hb he hr h8 hok hk hbig hvb hc hk1
    go_enter Tryz.func114, Tryz.ntmps114
    go_wp2_with fail
    refine K0.out.mono ?_
    rintro _ w1 ⟨rfl, hb1⟩
    have KR1 := Lib.hid (KR.out w1 hb1)
    have HB1 := Lib.hid hb1
    clear hb1 K0 KR
    go_wp2_with fail
    refine KR1.out.mono ?_
    rintro _ w2 ⟨v2, rfl, hs, hb2⟩
    have HS := Lib.hid (hs.mono (B' := w.heap.size) HB1.out.size)
    have HB2 := Lib.hid (HB1.out.trans (hb2.mono HB1.out.size))
    clear hs hb2 KR1 HB1
    go_wp2_with fail
    go_ret2
    exact ⟨_, _, rfl, HB2.out, Or.inr ⟨trivial, by simp, HS.out⟩⟩
end Go.Proofs.YtphmfaddgpjndaaGreat

/- heap.may, heap.lines. -/
namespace Go.Proofs.YtphmfaddgpjndaaGreat
open Go.ChangeShapes Go.WideShapes Go.RowKit

section
variable {w : World} {Mb Cb : Nat} {m : MS} {p : Pl}
set_option maxRecDepth 100000 in
set_option maxHeartbeats 1600000 in
theorem hmay_any (h : MemAt w Mb Cb m) (hp : p.Ok) (hn : m.n = 17 + p.L + p.S) (hd : m.down = false) :
    Calls Tryz.prog 52 #[.pointer (some ⟨Mb, 0, none⟩), p.v] w fun e w' => e = .returned (.int .i64 0) ∧ Below w.heap.size w w' := by
  have hq := newA w (.cells #[.int .i64 p.L, .int .i64 p.S, .int .i64 p.P, .int .i64 p.B] 23)
  have hql := lt_of_obj hq
  have hA := h.alloc (.cells #[.int .i64 p.L, .int .i64 p.S, .int .i64 p.P, .int .i64 p.B] 23)
  have HB0 : Hid (Below w.heap.size w (w.alloc (.cells #[.int .i64 p.L, .int .i64 p.S, .int .i64 p.P, .int .i64 p.B] 23))) := Lib.hid ((Below.refl _ _).alloc (Nat.le_refl _) _)
  have KP := Lib.hid (fun w => pmay_any hp w)
  have KD := Lib.hid (fun w => device_any hp w)
  rw [show 16 + p.L + 1 + p.S = 17 + p.L + p.S by omega, ← hn] at KD
  unfold Pl.v at KP KD ⊢
  have KL := Lib.hid (fun x => lines_in (hA.below (more_below _ x)))
  have HA := Lib.hid hA
  have HD := Lib.hid hd
  have hnn : ((m.n : Int) == (m.n : Int)) = true := by simp
  clear h hA hn hd hp
  generalize m.n = N at KL KD hnn
  go_enter Tryz.func52, Tryz.ntmps52
  go_wp2_with fail
  refine wp_region_more (by kernel_rfl) (by kernel_rfl) ?_
  iterate 2 (go_big_quiet_step ((go_at_call 26; exact more_call (KP.out _))))
  iterate 4 (go_big_quiet_step ((go_at_call 86; exact more_call ((KL.out _).mono (by rintro _ _ ⟨rfl, rfl⟩; exact ⟨rfl, Below.refl _ _⟩)))))
  iterate 2 (go_big_quiet_step ((go_at_call 28; exact more_call (KD.out _))))
  repeat (go_big_quiet_step ((fail)))
  refine wpQuiet_nil ?_
  intro _ hw'
  obtain ⟨x, hw''⟩ := hw'
  subst hw''
  have KDN := down_in (HA.out.below (more_below _ x))
  rw [HD.out] at KDN
  have KDN := Lib.hid KDN
  have HB2 := Lib.hid (HB0.out.trans ((more_below _ x).mono HB0.out.size))
  clear HA HB0 KP KD KL
  change Exit.then _ _ _ _ (more _ x)
  generalize more (w.alloc (.cells #[.int .i64 p.L, .int .i64 p.S, .int .i64 p.P, .int .i64 p.B] 23)) x = w2 at KDN HB2 ⊢
  go_wp2_with fail
  refine KDN.out.mono ?_
  rintro _ _ ⟨rfl, rfl⟩
  go_wp2_with fail
  go_ret
  exact ⟨rfl, HB2.out⟩
variable {n : Nat}
set_option maxRecDepth 100000 in
set_option maxHeartbeats 1600000 in
theorem hlines_any (h : MemAt w Mb Cb m) (hp : p.Ok) (hg : Good m (16 + p.L) p.S) :
    Calls Tryz.prog 54 #[.pointer (some ⟨Mb, 0, none⟩), p.v] w fun e w' => ∃ TU LN, e = .returned (.pointer (some ⟨TU, 0, none⟩)) ∧ TurnAt w' TU LN Mb Cb (16 + p.L) p.S p.P 0 m ∧ w.heap.size ≤ TU ∧ w.heap.size ≤ LN ∧ Below w.heap.size w w' := by
  have hq := newA w (.cells #[.int .i64 p.L, .int .i64 p.S, .int .i64 p.P, .int .i64 p.B] 23)
  have hql := lt_of_obj hq
  have hA := h.alloc (.cells #[.int .i64 p.L, .int .i64 p.S, .int .i64 p.P, .int .i64 p.B] 23)
  have HB0 : Hid (Below w.heap.size w (w.alloc (.cells #[.int .i64 p.L, .int .i64 p.S, .int .i64 p.P, .int .i64 p.B] 23))) := Lib.hid ((Below.refl _ _).alloc (Nat.le_refl _) _)
  have KP := Lib.hid (fun w => logical_any hp w)
  unfold Pl.v at KP ⊢
  have KT := Lib.hid (fun w2 (hb : Below (w.alloc (.cells #[.int .i64 p.L, .int .i64 p.S, .int .i64 p.P, .int .i64 p.B] 23)).heap.size (w.alloc (.cells #[.int .i64 p.L, .int .i64 p.S, .int .i64 p.P, .int .i64 p.B] 23)) w2) => tnew_in (hA.below hb) hg hp.hp)
  clear h hA hg hp
  generalize 16 + p.L = N at KP KT ⊢
  go_enter Tryz.func54, Tryz.ntmps54
  go_wp2_with fail
  refine wp_region_more_tail 7 (by kernel_rfl) (by kernel_rfl) (by kernel_rfl) ?_
  simp only [List.take_succ_cons, List.take_zero, List.drop_succ_cons, List.drop_zero]
  iterate 3 (go_big_quiet_step ((go_at_call 51; exact more_call (KP.out _))))
  repeat (go_big_quiet_step ((fail)))
  refine wpQuiet_nil ?_
  intro _ hw'
  obtain ⟨x, hw''⟩ := hw'
  subst hw''
  have KT2 := Lib.hid (KT.out _ (more_below _ x))
  have HB2 := Lib.hid (HB0.out.trans ((more_below _ x).mono HB0.out.size))
  clear HB0 KP KT hq hql
  change wpList _ _ _ _ _ (more _ x)
  generalize more (w.alloc (.cells #[.int .i64 p.L, .int .i64 p.S, .int .i64 p.P, .int .i64 p.B] 23)) x = w2 at KT2 HB2 ⊢
  go_wp2_with fail
  refine KT2.out.mono ?_
  rintro _ w3 ⟨TU, LN, rfl, ht, h1, h2, hb⟩
  have HT := Lib.hid ht
  have HX := Lib.hid (And.intro h1 h2)
  have HB3 := Lib.hid (HB2.out.trans (hb.mono HB2.out.size))
  clear ht h1 h2 hb KT2
  go_wp2_with fail
  go_ret
  exact ⟨TU, LN, rfl, HT.out, Nat.le_trans HB2.out.size HX.out.1, Nat.le_trans HB2.out.size HX.out.2, HB3.out⟩
end
end Go.Proofs.YtphmfaddgpjndaaGreat

/- heap.line. -/
namespace Go.Proofs.YtphmfaddgpjndaaGreat
open Go.ChangeShapes Go.WideShapes Go.RowKit

/-- a line of words -/
def lineW (W : Nat → Int) (i : Nat) : List Int := (List.range 8).map fun j => W (i * 8 + j)
theorem lineW_len (W : Nat → Int) (i : Nat) : (lineW W i).length = 8 := by simp [lineW]
theorem lineW_get (W : Nat → Int) (i j : Nat) (hj : j < 8) : (cs (lineW W i)).toList[j]? = some (.int .u64 (W (i * 8 + j))) := by
  simp [cs, lineW, hj]
theorem info25s : (Tryz.prog.info? 25).map (·.size) = some 1 := by kernel_rfl
set_option maxRecDepth 100000 in
set_option maxHeartbeats 1600000 in
theorem hline_any {w : World} {B N : Nat} {v : Value} {W : Nat → Int} (h : SlOf w B v 1 N (wordF W)) (i : Nat) (hi : i * 8 + 8 ≤ N) (hN : N ≤ 512) :
    Calls Tryz.prog 57 #[v, .int .i64 i] w fun e w' => e = .returned (.agg (cs (lineW W i))) ∧ Below w.heap.size w w' := by
  obtain ⟨g, off, cap, rfl, hcap, hcap2, _, hcell⟩ := h.cells (by omega)
  have hc0 := hcell 0 (by omega) 0 (by decide)
  have hgl : g < w.heap.size := lt_of_cell hc0
  have hq1 : obj ((w.alloc (.cells (cs [0, 0, 0, 0, 0, 0, 0, 0]) 91)).alloc (.cells (cs [0, 0, 0, 0, 0, 0, 0, 0]) 91)) (w.heap.size + 1) = some (.cells (cs [0, 0, 0, 0, 0, 0, 0, 0]) 91 (0, 0)) := obj_alloc_at _ _ _ (by simp)
  have hq0 : obj ((w.alloc (.cells (cs [0, 0, 0, 0, 0, 0, 0, 0]) 91)).alloc (.cells (cs [0, 0, 0, 0, 0, 0, 0, 0]) 91)) w.heap.size = some (.cells (cs [0, 0, 0, 0, 0, 0, 0, 0]) 91 (0, 0)) := by rw [obj_alloc_past _ _ _ (by simp)]; exact newA _ _
  have hb0 : Below w.heap.size w ((w.alloc (.cells (cs [0, 0, 0, 0, 0, 0, 0, 0]) 91)).alloc (.cells (cs [0, 0, 0, 0, 0, 0, 0, 0]) 91)) := ((Below.refl _ _).alloc (Nat.le_refl _) _).alloc (by simp) _
  have HCELL := Lib.hid hcell
  have HB0 := Lib.hid hb0
  have HGL := Lib.hid hgl
  have HQ := Lib.hid (And.intro hq0 hq1)
  obtain ⟨p, hp⟩ : ∃ p, i * 8 = p := ⟨_, rfl⟩
  have wp : IntKind.i64.wrap ((i : Int) * 8) = (p : Int) := by rw [IntKind.wrap_i64]; omega
  have p0 : (0 : Int) ≤ (p : Int) := by omega
  have p1 : (p : Int) ≤ (N : Int) := by omega
  have p2 : (N : Int) ≤ (cap : Int) := by omega
  have p3 : ¬ cap = p := by omega
  have HP := Lib.hid (show i * 8 = p ∧ p + 8 ≤ N by omega)
  clear h hcell hc0 hgl hq0 hq1 hb0 hp hi hN hcap hcap2
  obtain ⟨l, hlw⟩ : ∃ l, lineW W i = l := ⟨_, rfl⟩
  rw [hlw]
  have HLW := Lib.hid hlw
  clear hlw
  go_enter Tryz.func57, Tryz.ntmps57
  go_wp2_with fail
  refine wp_region_more_tail 5 (by kernel_rfl) (by kernel_rfl) (by kernel_rfl) ?_
  simp only [List.take_succ_cons, List.take_zero, List.drop_succ_cons, List.drop_zero]
  repeat (go_big_quiet_step ((fail)))
  refine wpQuiet_nil ?_
  intro _ hw'
  obtain ⟨x, hw''⟩ := hw'
  subst hw''
  obtain ⟨ep, hpN⟩ := HP.out
  have hs1 := lt_of_obj HQ.out.2
  have hs0 := lt_of_obj HQ.out.1
  have hbx := HB0.out.trans ((more_below _ x).mono HB0.out.size)
  have hx1 : obj (more ((w.alloc (.cells (cs [0, 0, 0, 0, 0, 0, 0, 0]) 91)).alloc (.cells (cs [0, 0, 0, 0, 0, 0, 0, 0]) 91)) x) (w.heap.size + 1) = some (.cells (cs [0, 0, 0, 0, 0, 0, 0, 0]) 91 (0, 0)) := by rw [obj_more _ _ _ hs1]; exact HQ.out.2
  have hx0 : obj (more ((w.alloc (.cells (cs [0, 0, 0, 0, 0, 0, 0, 0]) 91)).alloc (.cells (cs [0, 0, 0, 0, 0, 0, 0, 0]) 91)) x) w.heap.size = some (.cells (cs [0, 0, 0, 0, 0, 0, 0, 0]) 91 (0, 0)) := by rw [obj_more _ _ _ hs0]; exact HQ.out.1
  change wpList _ _ _ _ _ (more _ x)
  generalize more ((w.alloc (.cells (cs [0, 0, 0, 0, 0, 0, 0, 0]) 91)).alloc (.cells (cs [0, 0, 0, 0, 0, 0, 0, 0]) 91)) x = w2 at hbx hx1 hx0 ⊢
  have hlen : (cs (lineW W i)).toList.length = 8 := by rw [Array.length_toList, cs_size, lineW_len]
  refine wpList_copy_own rfl (.tmp 6) (.tmp 10) 54 54 rfl 25 Tryz.underlying54 info25s (w.heap.size + 1) 0 8 8 ⟨g, off + p, none⟩ (N - p) (cap - p) (by rfl) (by rfl) (cs [0, 0, 0, 0, 0, 0, 0, 0]) 91 hx1 (cs (lineW W i)).toList ?_ ?_ ?_ ?_ ?_
  · rw [hlen]; exact (Nat.min_eq_right (by omega)).symm
  · intro j v hj
    have hj8 : j < 8 := by
      have := (List.getElem?_eq_some_iff.1 hj).1
      omega
    rw [lineW_get W i j hj8] at hj
    rw [addr_add, cell?_heap, obj_below hbx HGL.out, ← Option.some.inj hj]
    have h1 := HCELL.out (i * 8 + j) (by omega) 0 (by decide)
    rw [Nat.mul_one, Nat.add_zero, ep, ← Nat.add_assoc] at h1
    rw [h1, ep]
    rfl
  · rw [hlen]; simp [cs_size]
  · intro v hv
    obtain ⟨j, hj⟩ := List.getElem?_of_mem hv
    have hj8 : j < 8 := by
      have := (List.getElem?_eq_some_iff.1 hj).1
      omega
    rw [lineW_get W i j hj8] at hj
    rw [← Option.some.inj hj]
    rfl
  · have e1 : (List.take 0 (cs [0, 0, 0, 0, 0, 0, 0, 0]).toList ++ ((cs (lineW W i)).toList ++ List.drop (0 + (cs (lineW W i)).toList.length) (cs [0, 0, 0, 0, 0, 0, 0, 0]).toList)).toArray = cs (lineW W i) := by
      rw [hlen, List.drop_of_length_le (by simp [cs_size]), List.take_zero, List.nil_append, List.append_nil]
    rw [e1, hlen]
    have hy1 : obj (w2.setRow (w.heap.size + 1) (cs (lineW W i))) (w.heap.size + 1) = some (.cells (cs (lineW W i)) 91 (0, 0)) := by rw [obj_setRow_eq, hx1]; rfl
    have hy0 : obj (w2.setRow (w.heap.size + 1) (cs (lineW W i))) w.heap.size = some (.cells (cs [0, 0, 0, 0, 0, 0, 0, 0]) 91 (0, 0)) := by rw [obj_setRow_ne _ _ _ _ (by omega)]; exact hx0
    have hby : Below w.heap.size w (w2.setRow (w.heap.size + 1) (cs (lineW W i))) := below_setRow hbx (by omega) _
    have hl := lineW_len W i
    rw [HLW.out] at hy1 hy0 hby hl ⊢
    have HBY := Lib.hid hby
    have hsy1 := lt_of_obj hy1
    have hsy0 := lt_of_obj hy0
    generalize w2.setRow (w.heap.size + 1) (cs l) = w3 at hy1 hy0 HBY hsy1 hsy0 ⊢
    clear hby hbx hx1 hx0 hs1 hs0 hlen e1 ep hpN
    go_wp2_with fail
    refine ret_row rfl rfl (Tryz.isAgg91 _) (size91 _) (c := cs l) ?_ rfl ⟨rfl, ?_⟩
    · rw [sz91]
      rw [obj_setRow_eq, hy0]
      simp [go_sem, hl]
    · exact below_setRow HBY.out (Nat.le_refl _) _
end Go.Proofs.YtphmfaddgpjndaaGreat
