/- Contracts and laws of their own, used by the claim's theorem: The reference model: Merged. (Printed by wip/genBG.py.) -/
import Derived.Test.YtphmfaddgpjndaaGreatPk9
import Derived.Deep.CutRange
import Derived.Deep.RegionWith
import Derived.Laws.BytesArg
namespace Go.Proofs.YtphmfaddgpjndaaGreat
open Go.ChangeShapes Go.WideShapes Go.RowKit Go.Maps

theorem mid_get (A B C : List Value) (n j : Nat) (h : A.length = n) (hj : j < B.length) : ((A ++ B) ++ C)[n + j]? = B[j]? := by
  rw [List.getElem?_append_left (by rw [List.length_append]; omega), List.getElem?_append_right (by omega), h, Nat.add_sub_cancel_left]
set_option maxRecDepth 100000 in
set_option maxHeartbeats 12800000 in
theorem rmerged_any {w : World} {B L i : Nat} {b : Bs} {v : Value} (h : RowSl w B v 3 b.n (blkF b)) (hb : b.Ok (L * 8)) (hk : i < b.n) (hu : b.us i = true) :
    Calls Tryz.prog 104 #[v, .int .i64 i] w fun e w' => ∃ G m c, e = .returned (.tuple #[.slice (some ⟨G, 0, none⟩) m c, .int .i64 (fromM b i : Nat), .bool true]) ∧ fromM b i < m ∧ m ≤ 100000 ∧ G < w'.heap.size ∧
      cellAt (obj w' G) (fromM b i * 3) = some (.int .i64 (b.at (fromM b i))) ∧ cellAt (obj w' G) (fromM b i * 3 + 1) = some (.int .i64 (b.at (toM b i) - b.at (fromM b i) : Nat)) ∧ Below w.heap.size w w' := by
  obtain ⟨i0, hi0, hz0, hz1, hz2⟩ := info_parts' info45
  have hcn := hb.count
  have hbig := hb.big
  have KW := rsizes_any (v := v) (a := b.at) (s := b.sz) (u := b.us) (n := b.n) h (fun i hi => hb.size hi) (by have := hb.big; rw [sumN_at, hb.sum]; omega)
  rw [sumN_at, hb.sum] at KW
  have KW := Lib.hid KW
  have KM := Lib.hid (fun w1 (hb1 : Below w.heap.size w w1) => rmayb_any (h.below hb1) hb)
  obtain ⟨g, off, cap, rfl, hcap, hcap2, _, hg, hrow, hcells⟩ := blk_row h (by omega)
  have HCELL : Hid (∀ i, i < b.n → ∀ t, t < 3 → cellAt (obj w g) (off + i * 3 + t) = some (blkF b i t)) := Lib.hid (by
    intro i hi t ht
    obtain ⟨g', off', cap', e, _, _, _, _, _, hc⟩ := h.cells (by omega)
    obtain ⟨⟨rfl, rfl⟩, _⟩ : (g = g' ∧ off = off') ∧ cap = cap' := by simpa using e
    exact hc i hi t ht)
  have hc := (hcells i hk).2.2
  rw [hu] at hc
  obtain ⟨N, hN⟩ : ∃ N, L * 8 = N := ⟨_, rfl⟩
  rw [hN] at KW KM hbig
  have HC := Lib.hid hc
  have HG := Lib.hid hg
  have HCELLS := Lib.hid hcells
  have HROW := Lib.hid hrow
  have HK := Lib.hid (And.intro hk (And.intro hcn (And.intro hcap hcap2)))
  have HB := Lib.hid (And.intro hb (And.intro hN hbig))
  have i0' : (0 : Int) ≤ (i : Int) := Int.natCast_nonneg i
  have i1 : (i : Int) < (b.n : Int) := by omega
  have i2 : ¬ (i : Int) < 0 := by omega
  have i3 : ¬ (i : Int) ≥ (b.n : Int) := by omega
  obtain ⟨j, hj⟩ : ∃ j, i + 1 = j := ⟨_, rfl⟩
  have wj : IntKind.i64.wrap ((i : Int) + 1) = (j : Int) := by rw [IntKind.wrap_i64]; omega
  have HJ := Lib.hid hj
  have hfl := fromM_le b i
  have htl := toM_le b hk
  obtain ⟨f, hf⟩ : ∃ f, fromM b i = f := ⟨_, rfl⟩
  obtain ⟨t, ht⟩ : ∃ t, toM b i = t := ⟨_, rfl⟩
  rw [hf] at hfl ⊢
  rw [ht] at htl ⊢
  have HF := Lib.hid (And.intro hf hfl)
  have HT := Lib.hid (And.intro ht htl)
  clear h hb hu hc hg hN hcells hrow hk hcn hcap hcap2 hj hf ht hfl htl hbig
  go_enter Tryz.func104, Tryz.ntmps104
  go_upto_region 4 with (first | (go_at_call 130; refine KW.out.mono ?_; rintro _ w1 ⟨rfl, hb1⟩) | (go_at_call 64; refine (KM.out w1 hb1).mono ?_; rintro _ w2 ⟨rfl, hb2⟩; have hbb := hb1.trans (hb2.mono hb1.size); have hc := HC.out; rw [← obj_below hbb HG.out] at hc))
  have HB2 := Lib.hid hbb
  clear hbb hb1 hb2 KW KM hc
  go_cut [49] from 13 (fun s wx => s = .bool (decide (f < i)) ∧ wx = w2)
  case first =>
    have hK := HK.out
    have hcell : 0 < i → cellAt (obj w2 g) (off + (i - 1) * 3 + 2) = some (.bool (b.us (i - 1))) := fun h0 => by
      rw [obj_below HB2.out HG.out]
      exact (HCELLS.out (i - 1) (by omega)).2.2
    have hgl : g < w2.heap.size := by have := HB2.out.size; have := HG.out; omega
    have hF := HF.out
    rcases Nat.eq_zero_or_pos i with h0 | h0
    · have p1 : ¬ (i : Int) > 0 := by omega
      have e1 : ¬ f < i := by omega
      clear hcell h0 hK hF
      go_wp2_with fail
      go_meet
      exact ⟨by rw [decide_eq_false e1], rfl⟩
    · have hcp := hcell h0
      have e0 : decide (f < i) = !b.us (i - 1) := by
        rw [← hF.1]
        unfold fromM
        cases hq : b.us (i - 1)
        · rw [if_pos ⟨h0, rfl⟩]; exact decide_eq_true (by omega)
        · rw [if_neg (by rintro ⟨_, h⟩; cases h)]; exact decide_eq_false (by omega)
      obtain ⟨p, hp⟩ : ∃ p, i - 1 = p := ⟨_, rfl⟩
      rw [hp] at hcp e0
      have p1 : (i : Int) > 0 := by omega
      have p3 : (0 : Int) ≤ (p : Int) := by omega
      have p4 : (p : Int) < (b.n : Int) := by omega
      have wp : IntKind.i64.wrap ((i : Int) - 1) = (p : Int) := by rw [IntKind.wrap_i64]; omega
      generalize b.us p = up at hcp e0
      have E0 := Lib.hid e0
      clear hcell h0 e0 hp hK hF
      go_wp2_with fail
      go_meet
      exact ⟨by rw [E0.out], rfl⟩
  case rest =>
  obtain ⟨rfl, rfl⟩ := hcut
  go_upto_if 49 with fail
  go_cut [7] from 13 (fun s wx => s = .int .i64 f ∧ wx = wc)
  case first =>
    have hK := HK.out
    have hF := HF.out
    by_cases hfi : f < i
    · have wf : IntKind.i64.wrap ((i : Int) - 1) = (f : Int) := by rw [IntKind.wrap_i64]; omega
      clear hK hF
      go_wp2_with fail
      go_meet
      exact ⟨rfl, rfl⟩
    · obtain rfl : f = i := by omega
      clear hK hF
      go_wp2_with fail
      go_meet
      exact ⟨rfl, rfl⟩
  case rest =>
  obtain ⟨rfl, rfl⟩ := hcut
  go_upto_region 6 with fail
  go_cut [63] from 13 (fun s wx => s = .bool (decide (j < t)) ∧ wx = wc)
  case first =>
    have hK := HK.out
    have hJ := HJ.out
    have hT := HT.out
    have hcell : j < b.n → cellAt (obj wc g) (off + j * 3 + 2) = some (.bool (b.us j)) := fun h0 => by
      rw [obj_below HB2.out HG.out]
      exact (HCELLS.out j h0).2.2
    have hgl : g < wc.heap.size := by have := HB2.out.size; have := HG.out; omega
    by_cases h0 : j < b.n
    · have hcp := hcell h0
      have e0 : decide (j < t) = !b.us j := by
        rw [← hT.1, ← hJ]
        unfold toM
        cases hq : b.us (i + 1)
        · rw [if_pos ⟨by omega, rfl⟩]; exact decide_eq_true (by omega)
        · rw [if_neg (by rintro ⟨_, h⟩; cases h)]; exact decide_eq_false (by omega)
      have p1 : (j : Int) < (b.n : Int) := by omega
      have p3 : (0 : Int) ≤ (j : Int) := by omega
      generalize b.us j = up at hcp e0
      have E0 := Lib.hid e0
      clear hcell h0 e0 hK hJ hT
      go_wp2_with fail
      go_meet
      exact ⟨by rw [E0.out], rfl⟩
    · have p1 : ¬ (j : Int) < (b.n : Int) := by omega
      have e1 : ¬ j < t := by omega
      clear hcell h0 hK hJ hT
      go_wp2_with fail
      go_meet
      exact ⟨by rw [decide_eq_false e1], rfl⟩
  case rest =>
  obtain ⟨rfl, rfl⟩ := hcut
  go_upto_if 63 with fail
  go_cut [8] from 13 (fun s wx => s = .int .i64 t ∧ wx = wc)
  case first =>
    have hK := HK.out
    have hJ := HJ.out
    have hT := HT.out
    by_cases hjt : j < t
    · have wf : IntKind.i64.wrap ((j : Int) + 1) = (t : Int) := by rw [IntKind.wrap_i64]; omega
      clear hK hJ hT
      go_wp2_with fail
      go_meet
      exact ⟨rfl, rfl⟩
    · obtain rfl : t = j := by omega
      clear hK hJ hT
      go_wp2_with fail
      go_meet
      exact ⟨rfl, rfl⟩
  case rest =>
  obtain ⟨rfl, rfl⟩ := hcut
  have hft : f < t ∧ t ≤ b.n ∧ b.n ≤ cap := by
    have hK := HK.out
    have hJ := HJ.out
    have hT := HT.out
    have hF := HF.out
    omega
  have HFT := Lib.hid hft
  have f0 : (0 : Int) ≤ (f : Int) := Int.natCast_nonneg f
  have f2 : (f : Int) ≤ (t : Int) := by omega
  have f3 : (t : Int) ≤ (cap : Int) := by omega
  have f4 : (t : Int) ≤ (b.n : Int) := by omega
  have t0 : (0 : Int) ≤ (t : Int) := Int.natCast_nonneg t
  have hcf : ¬ cap = f := by omega
  clear hft i0' i1 i2 i3 wj
  go_wp2_with fail
  go_loopw [71, 9] (fun ix nx wr => ∃ q : Nat, q ≤ t - f ∧ ix = .int .i64 q ∧ nx = .int .i64 (b.at (f + q) - b.at f : Nat) ∧ Below w.heap.size w wr) (fun ix _ _ => t - f + 1 - (intOf ix).toNat)
  case atStart => exact ⟨0, Nat.zero_le _, rfl, by simp, HB2.out⟩
  case round =>
    obtain ⟨q, hq, rfl, rfl, hbr⟩ := hrel
    have HBR := Lib.hid hbr
    have hft := HFT.out
    by_cases hlt : q < t - f
    · have hltz : (q : Int) < ((t - f : Nat) : Int) := by omega
      have q0 : (0 : Int) ≤ (q : Int) := Int.natCast_nonneg q
      have hB := HB.out
      have hbn := hB.1.count
      have wq : IntKind.i64.wrap ((q : Int) + 1) = (q : Int) + 1 := by rw [IntKind.wrap_i64]; omega
      have hr := HROW.out (f + q) (by omega)
      rw [← obj_below hbr HG.out, show off + (f + q) * 3 = off + f * 3 + q * 3 by omega] at hr
      have hgw : g < wr.heap.size := by have := hbr.size; have := HG.out; omega
      have hle := hB.1.le (show f + q < b.n by omega)
      have hmo := b.at_mono (show f ≤ f + q by omega)
      have hsu : b.at (f + (q + 1)) = b.at (f + q) + b.sz (f + q) := b.at_succ (f + q)
      have hsz := hB.1.size (show f + q < b.n by omega)
      obtain ⟨s, hs⟩ : ∃ s, b.sz (f + q) = s := ⟨_, rfl⟩
      rw [hs] at hr hle hsu hsz
      generalize b.us (f + q) = u at hr
      have HS : Hid (b.at (f + (q + 1)) - b.at f = b.at (f + q) - b.at f + s) := Lib.hid (by omega)
      obtain ⟨a, ha⟩ : ∃ a, b.at (f + q) = a := ⟨_, rfl⟩
      rw [ha] at hr
      rw [ha] at hle hmo
      obtain ⟨d, hd⟩ : ∃ d, b.at (f + q) - b.at f = d := ⟨_, rfl⟩
      rw [hd] at HS ⊢
      have ws : IntKind.i64.wrap ((d : Int) + (s : Int)) = ((d + s : Nat) : Int) := by rw [IntKind.wrap_i64]; omega
      have HQ := Lib.hid hlt
      clear hbr hq hlt hft hB hbn hle hmo hsu hsz hs ha hd
      go_wp2_with fail
      exact ⟨⟨q + 1, HQ.out, by simp, by rw [HS.out]; first | rfl | (simp), HBR.out.alloc HBR.out.size _⟩, by have := HQ.out; simp only [intOf]; omega⟩
    · have e : q = t - f := by omega
      subst e
      have hltz : ¬ ((t - f : Nat) : Int) < ((t - f : Nat) : Int) := by omega
      rw [show f + (t - f) = t by omega]
      have hat := HB.out.1.at_le hft.2.1
      have hN2 := HB.out.2
      have hat2 := b.at_mono (show f ≤ t by omega)
      obtain ⟨S, hS⟩ : ∃ S, b.at t - b.at f = S := ⟨_, rfl⟩
      rw [hS]
      obtain ⟨z, hz⟩ : ∃ z, b.at f = z := ⟨_, rfl⟩
      rw [hz]
      have hcn := HK.out.2.1
      clear hlt hq
      go_upto_region 14 with fail
      have HCW : Hid (∀ i, i < b.n → ∀ t, t < 3 → cellAt (obj wr g) (off + i * 3 + t) = some (blkF b i t)) := Lib.hid (fun i hi t ht => by rw [obj_below HBR.out HG.out]; exact HCELL.out i hi t ht)
      have hc0 : cellAt (obj wr g) (off + f * 3) = some (.int .i64 z) := by
        have := HCW.out f (by omega) 0 (by decide)
        rw [← hz]
        exact this
      have hgl : g < wr.heap.size := by have := hbr.size; have := HG.out; omega
      have A4 : (flatF 3 (blkF b) f).length = f * 3 := by rw [flatF_len]
      have A1 : ∀ u ∈ flatF 3 (blkF b) f, u.oneCell' = true := by have := blkF_one b 0 f; simpa using this
      have hqn := newA wr (.cells #[.int .i64 z, .int .i64 S, .bool false] 45)
      have hga : obj (wr.alloc (.cells #[.int .i64 z, .int .i64 S, .bool false] 45)) g = obj wr g := obj_alloc_past wr _ g hgl
      have A5 : ∀ j u, (flatF 3 (blkF b) f)[j]? = some u → ((wr.alloc (.cells #[.int .i64 z, .int .i64 S, .bool false] 45)).drew).cell? ((⟨g, off, none⟩ : Addr).add j) = some u := rows3_news (fun i hi t' ht => by rw [obj_drew, hga]; exact HCW.out i (by omega) t' ht)
      have A8 : f ≤ maxLen := by unfold maxLen; omega
      have A9 : f * 24 ≤ 140737488355328 := by omega
      have A10 : w.heap.size ≤ (wr.alloc (.cells #[.int .i64 z, .int .i64 S, .bool false] 45)).drew.heap.size := by have := HBR.out.size; simp; omega
      have A11 : (wr.alloc (.cells #[.int .i64 z, .int .i64 S, .bool false] 45)).drew.heap.size = wr.heap.size + 1 := by simp
      have A5a : ∀ j u, (flatF 3 (blkF b) f)[j]? = some u → (wr.drew).cell? ((⟨g, off, none⟩ : Addr).add j) = some u := rows3_news (fun i hi t' ht => HCW.out i (by omega) t' ht)
      have A10a : w.heap.size ≤ wr.drew.heap.size := HBR.out.size
      have ik1 : (f : Int) ≤ (b.n : Int) := by omega
      have ik2 : (f : Int) ≤ (cap : Int) := by omega
      have ik3 : f ≤ cap := by omega
      have ik4 : (f : Int) < (b.n : Int) := by omega
      have B1 : ∀ u ∈ [Value.int .i64 (z : Int), .int .i64 (S : Int), .bool false], u.oneCell' = true := by simp [Value.oneCell']
      have B8 : f + 1 ≤ maxLen := by unfold maxLen; omega
      have B9 : (f + 1) * 24 ≤ 140737488355328 := by omega
      have nn : (Value.slice none 0 0).ownBlock ≠ some g := by simp [Value.ownBlock]
      have gd : g < wr.drew.heap.size := hgl
      have gd2 : g < (wr.alloc (.cells #[.int .i64 z, .int .i64 S, .bool false] 45)).drew.heap.size := by simp; omega
      have hgw := HG.out
      have HZ := Lib.hid hz
      have HS := Lib.hid hS
      clear hft hat hN2 hat2 hS hz hcn hbr hltz
      go_region_held3 (fun w' => cellAt (obj w' g) (off + f * 3) = some (.int .i64 z))
          (first
            | exact hc0
            | (rw [obj_drew, hga]; exact hc0)
            | exact hS1
            | (rw [obj_alloc_past wA _ g gA1]; exact hS1)
            | exact hS2)
          (first
            | (refine step_append_row wr.drew (by rfl) (Operand.const (Value.slice none 0 0)) (Operand.tmp 82) 42 (by rfl) w.heap.size 45 i0 (Value.agg #[.int .i64 0, .int .i64 0, .bool false]) 3 24 Tryz.underlying42 hi0 hz0 hz1 hz2 rfl (by decide) (Value.slice none 0 0) 0 [] (by rfl) (World.ownsRow_nil _ _ _ _) ⟨g, off, none⟩ f cap (flatF 3 (blkF b) f) (by rfl) A4 A5a A1 f (Nat.zero_add f) A8 A9 A10a wr.heap.size (by rfl) ?_
               intro aoA capA wA hownA hgrowA hatA
               rw [List.nil_append] at hownA
               have gA1 : g < wA.heap.size := Nat.lt_of_lt_of_le gd hgrowA.size
               have hS1 : cellAt (obj wA g) (off + f * 3) = some (.int .i64 z) := (congrArg (fun o => cellAt o (off + f * 3)) (grow_obj hgrowA gd nn)).trans hc0
               have hBA : Below w.heap.size w wA := HBR.out.drew.grown hgrowA HBR.out.size (fun _ h => by cases h))
            | (refine step_append_row (wr.alloc (.cells #[.int .i64 z, .int .i64 S, .bool false] 45)).drew (by rfl) (Operand.const (Value.slice none 0 0)) (Operand.tmp 82) 42 (by rfl) w.heap.size 45 i0 (Value.agg #[.int .i64 0, .int .i64 0, .bool false]) 3 24 Tryz.underlying42 hi0 hz0 hz1 hz2 rfl (by decide) (Value.slice none 0 0) 0 [] (by rfl) (World.ownsRow_nil _ _ _ _) ⟨g, off, none⟩ f cap (flatF 3 (blkF b) f) (by rfl) A4 A5 A1 f (Nat.zero_add f) A8 A9 A10 (wr.heap.size + 1) A11 ?_
               intro aoA capA wA hownA hgrowA hatA
               rw [List.nil_append] at hownA
               have gA1 : g < wA.heap.size := Nat.lt_of_lt_of_le gd2 hgrowA.size
               have hS1 : cellAt (obj wA g) (off + f * 3) = some (.int .i64 z) := (congrArg (fun o => cellAt o (off + f * 3)) ((grow_obj hgrowA gd2 nn).trans hga)).trans hc0
               have hBA : Below w.heap.size w wA := (HBR.out.alloc HBR.out.size (.cells #[.int .i64 z, .int .i64 S, .bool false] 45)).drew.grown hgrowA (by have := HBR.out.size; simp; omega) (fun _ h => by cases h))
            | (have B10 : w.heap.size ≤ (wA.alloc (.cells #[.int .i64 z, .int .i64 S, .bool false] 45)).heap.size := by have := hBA.size; simp; omega
               have B11 : (wA.alloc (.cells #[.int .i64 z, .int .i64 S, .bool false] 45)).heap.size = wA.heap.size + 1 := by simp
               refine step_append_row (wA.alloc (.cells #[.int .i64 z, .int .i64 S, .bool false] 45)) (by rfl) (Operand.tmp 83) (Operand.tmp 91) 42 (by rfl) w.heap.size 45 i0 (Value.agg #[.int .i64 0, .int .i64 0, .bool false]) 3 24 Tryz.underlying42 hi0 hz0 hz1 hz2 rfl (by decide) (Value.slice aoA f capA) f (flatF 3 (blkF b) f) (by rfl) (hownA.alloc _) ⟨wA.heap.size, 0, none⟩ 1 1 [.int .i64 z, .int .i64 S, .bool false] (by rfl) (by rfl) (news_new _ _ _) B1 (f + 1) rfl B8 B9 B10 (wA.heap.size + 1) B11 ?_
               intro aoB capB wB hownB hgrowB hatB
               have hS2 : cellAt (obj wB g) (off + f * 3) = some (.int .i64 z) := (congrArg (fun o => cellAt o (off + f * 3)) ((grow_obj hgrowB (by simp; omega) (fun e => by have := (hownA.lt g e).1; omega)).trans (obj_alloc_past wA _ g gA1))).trans hS1
               have hBB : Below w.heap.size w wB := (hBA.alloc hBA.size (.cells #[.int .i64 z, .int .i64 S, .bool false] 45)).grown hgrowB B10 (fun j e => (hownA.lt j e).1))
            | (have B5 : ∀ j u, [Value.int .i64 (z : Int), .int .i64 (S : Int), .bool false][j]? = some u → wA.cell? ((⟨wr.heap.size, 0, none⟩ : Addr).add j) = some u := World.news_of_block (cs := #[.int .i64 z, .int .i64 S, .bool false]) (t := 45) (fr := (0, 0)) ((grow_obj hgrowA (by simp) (by simp [Value.ownBlock])).trans hqn)
               refine step_append_row wA (by rfl) (Operand.tmp 83) (Operand.tmp 91) 42 (by rfl) w.heap.size 45 i0 (Value.agg #[.int .i64 0, .int .i64 0, .bool false]) 3 24 Tryz.underlying42 hi0 hz0 hz1 hz2 rfl (by decide) (Value.slice aoA f capA) f (flatF 3 (blkF b) f) (by rfl) hownA ⟨wr.heap.size, 0, none⟩ 1 1 [.int .i64 z, .int .i64 S, .bool false] (by rfl) (by rfl) B5 B1 (f + 1) rfl B8 B9 hBA.size wA.heap.size (by rfl) ?_
               intro aoB capB wB hownB hgrowB hatB
               have hS2 : cellAt (obj wB g) (off + f * 3) = some (.int .i64 z) := (congrArg (fun o => cellAt o (off + f * 3)) (grow_obj hgrowB gA1 (fun e => by have := (hownA.lt g e).1; omega))).trans hS1
               have hBB : Below w.heap.size w wB := hBA.grown hgrowB hBA.size (fun j e => (hownA.lt j e).1)))
      all_goals
          have HBW := Lib.hid hBB
          have HOB := Lib.hid hownB
          clear hBA hownA hgrowA hatA hgrowB hatB hc0 A1 A4 A5 A5a A8 A9 A10 A10a A11 B1 B8 B9 gd gd2 hga hqn hgl nn hS1 hS2 gA1
          have hK := HK.out
          have hown := HOB.out
          have hft := HFT.out
          obtain ⟨n0, hn0⟩ : ∃ x, f + 1 = x := ⟨_, rfl⟩
          obtain ⟨N0, hN0⟩ : ∃ x, n0 + (b.n - t) = x := ⟨_, rfl⟩
          rw [hn0] at hown ⊢
          have e0 : (0 : Int) ≤ (t : Int) := Int.natCast_nonneg t
          have e1 : (t : Int) ≤ (b.n : Int) := by omega
          have e2 : (b.n : Int) ≤ (cap : Int) := by omega
          have e3 : t ≤ cap := by omega
          have e4 : t ≤ b.n := by omega
          have E4 : (flatF 3 (fun i => blkF b (t + i)) (b.n - t)).length = (b.n - t) * 3 := by rw [flatF_len]
          have E1 := blkF_one b t (b.n - t)
          have hcw : ∀ i, i < b.n - t → ∀ x, x < 3 → cellAt (obj wB g) (off + t * 3 + i * 3 + x) = some (blkF b (t + i) x) := fun i hi x hx => by
            rw [obj_below hBB HG.out, show off + t * 3 + i * 3 + x = off + (t + i) * 3 + x by omega]
            exact HCELL.out (t + i) (by omega) x hx
          have E5 := rows3_news hcw
          have E8 : N0 ≤ maxLen := by unfold maxLen; omega
          have E9 : N0 * 24 ≤ 140737488355328 := by omega
          have HEND : Hid (f < N0 ∧ N0 ≤ 100000) := Lib.hid (by omega)
          have HLEN : Hid ((flatF 3 (blkF b) f).length = f * 3) := Lib.hid (by rw [flatF_len])
          rcases Nat.lt_or_ge t cap with htf | htf
          · have htf2 : ¬ cap = t := by omega
            clear hK hcw hn0 hft hBB
            go_wp2_with (at_builtin; refine list_append_row wB rfl (.tmp 93) (.tmp 96) 42 rfl w.heap.size 45 i0 (Value.agg #[.int .i64 0, .int .i64 0, .bool false]) 3 24 Tryz.underlying42 hi0 hz0 hz1 hz2 rfl (by decide) (.slice aoB n0 capB) n0 _ rfl hown ⟨g, off + t * 3, none⟩ (b.n - t) (cap - t) _ rfl E4 E5 E1 N0 hN0 E8 E9 HBW.out.size wB.heap.size rfl ?_; intro aoD capD wD hownD hgrowD hatD)
            obtain ⟨G, capG, hG, _, hGl⟩ := hownD.form (by have := HEND.out; omega)
            obtain ⟨rfl, rfl⟩ : aoD = some ⟨G, 0, none⟩ ∧ capD = capG := by simpa using hG
            have c0 := hownD.cellAt (f * 3 + 0) (by have := HEND.out; omega)
            have c1 := hownD.cellAt (f * 3 + 1) (by have := HEND.out; omega)
            rw [mid_get _ _ _ _ _ HLEN.out (by simp), cell?_heap] at c0 c1
            replace c0 : cellAt (obj wD G) (f * 3) = some (.int .i64 z) := c0
            replace c1 : cellAt (obj wD G) (f * 3 + 1) = some (.int .i64 S) := c1
            have HCC := Lib.hid (And.intro c0 c1)
            have HBD := Lib.hid (HBW.out.grown hgrowD HBW.out.size (fun j e => (hown.lt j e).1))
            clear hownD hgrowD hatD hG c0 c1 hown
            go_ret3
            exact ⟨G, _, _, rfl, HEND.out.1, HEND.out.2, hGl, by rw [HZ.out]; exact HCC.out.1, by rw [HS.out]; exact HCC.out.2, HBD.out⟩
          · obtain rfl : cap = t := by omega
            have hbn : b.n = cap := by omega
            rw [hbn] at E4 E1 E5
            rw [Nat.sub_self] at E4 E1 E5
            have hN0' : n0 + 0 = N0 := by omega
            clear hN0 E4 E1 E5 hK hcw hn0 hft hBB
            go_wp2_with (at_builtin; refine list_append_row wB rfl (.tmp 93) (.tmp 96) 42 rfl w.heap.size 45 i0 (Value.agg #[.int .i64 0, .int .i64 0, .bool false]) 3 24 Tryz.underlying42 hi0 hz0 hz1 hz2 rfl (by decide) (.slice aoB n0 capB) n0 _ rfl hown ⟨g, off, none⟩ 0 0 [] rfl rfl (fun _ _ h => by simp at h) (fun _ h => by simp at h) N0 hN0' E8 E9 HBW.out.size wB.heap.size rfl ?_; intro aoD capD wD hownD hgrowD hatD)
            obtain ⟨G, capG, hG, _, hGl⟩ := hownD.form (by have := HEND.out; omega)
            obtain ⟨rfl, rfl⟩ : aoD = some ⟨G, 0, none⟩ ∧ capD = capG := by simpa using hG
            have c0 := hownD.cellAt (f * 3 + 0) (by have := HEND.out; omega)
            have c1 := hownD.cellAt (f * 3 + 1) (by have := HEND.out; omega)
            rw [mid_get _ _ _ _ _ HLEN.out (by simp), cell?_heap] at c0 c1
            replace c0 : cellAt (obj wD G) (f * 3) = some (.int .i64 z) := c0
            replace c1 : cellAt (obj wD G) (f * 3 + 1) = some (.int .i64 S) := c1
            have HCC := Lib.hid (And.intro c0 c1)
            have HBD := Lib.hid (HBW.out.grown hgrowD HBW.out.size (fun j e => (hown.lt j e).1))
            clear hownD hgrowD hatD hG c0 c1 hown
            go_ret3
            exact ⟨G, _, _, rfl, HEND.out.1, HEND.out.2, hGl, by rw [HZ.out]; exact HCC.out.1, by rw [HS.out]; exact HCC.out.2, HBD.out⟩
end Go.Proofs.YtphmfaddgpjndaaGreat

/- The reference model: bytes of words read and written. (Printed by wip/genBH.py.) -/
namespace Go.Proofs.YtphmfaddgpjndaaGreat
open Go.ChangeShapes Go.WideShapes Go.RowKit Go.Maps

set_option maxHeartbeats 1600000 in
theorem rinside_any {N off n : Nat} (h1 : off + n ≤ N * 8) (h2 : n ≤ 448) (h3 : N ≤ 512) (w : World) :
    Calls Tryz.prog 131 #[.int .i64 N, .int .i64 off, .int .i64 n] w fun e w' => e = .returned (.bool true) ∧ w = w' := by
  have d1 : (off : Int) ≥ 0 := by omega
  have d2 : (n : Int) ≥ 0 := by omega
  have d3 : (n : Int) ≤ 448 := by omega
  obtain ⟨M, hM⟩ : ∃ M, N * 8 = M := ⟨_, rfl⟩
  have w1 : IntKind.i64.wrap (8 * (N : Int)) = (M : Int) := by rw [IntKind.wrap_i64]; omega
  have w2 : IntKind.i64.wrap ((M : Int) - (off : Int)) = (M : Int) - (off : Int) := by rw [IntKind.wrap_i64]; omega
  have d4 : (off : Int) ≤ (M : Int) := by omega
  have d5 : (n : Int) ≤ (M : Int) - (off : Int) := by omega
  clear h1 h2 h3 hM
  go_enter Tryz.func131, Tryz.ntmps131
  go_wp2
  go_ret
  exact ⟨rfl, rfl⟩
set_option maxRecDepth 100000 in
set_option maxHeartbeats 1600000 in
theorem rread_any {w : World} {B N off n : Nat} {v : Value} {W : Nat → Int} (h : SlOf w B v 1 N (wordF W)) (hN : 8 ≤ N ∧ N ≤ 512) (h1 : off + n ≤ N * 8) (h2 : n ≤ 448) (hW : ∀ i, i < N → 0 ≤ W i ∧ W i < 18446744073709551616) :
    Calls Tryz.prog 116 #[v, .int .i64 off, .int .i64 n] w fun e w' => ∃ v', e = .returned (.tuple #[v', .bool true]) ∧ SlOf w' w.heap.size v' 1 n (fun i _ => .int .u8 (byteW W (off + i))) ∧ Below w.heap.size w w' := by
  obtain ⟨i0, hi0, hz0, hz1, hz2⟩ := info_parts' info5
  obtain ⟨g, off0, cap, rfl, _, _, _, hcell⟩ := h.cells (by omega)
  have K0 := Lib.hid (fun w => rinside_any h1 h2 hN.2 w)
  have HCELL := Lib.hid hcell
  have HW := Lib.hid hW
  have HX := Lib.hid (And.intro hN (And.intro h1 h2))
  obtain ⟨E, hE⟩ : ∃ E, off + n = E := ⟨_, rfl⟩
  have wE : IntKind.i64.wrap ((off : Int) + (n : Int)) = (E : Int) := by rw [IntKind.wrap_i64]; omega
  have HE := Lib.hid hE
  clear h hcell hW hE hN h1 h2
  go_enter Tryz.func116, Tryz.ntmps116
  go_wp2_with fail
  refine (K0.out _).mono ?_
  rintro _ _ ⟨rfl, rfl⟩
  go_wp2_with fail
  go_loopw [9, 8] (fun ix s wr => ∃ i : Nat, i ≤ n ∧ ix = .int .i64 (off + i : Nat) ∧ wr.ownsRow w.heap.size 5 1 s i (flatF 1 (fun i _ => .int .u8 (byteW W (off + i))) i) ∧ (i = 0 → s = .slice none 0 0) ∧ Below w.heap.size w wr) (fun ix _ _ => off + n - (intOf ix).toNat)
  case atStart => exact ⟨0, Nat.zero_le _, rfl, World.ownsRow_nil _ _ _ _, fun _ => rfl, Below.refl _ _⟩
  case round =>
    obtain ⟨i, hi, rfl, ho, hz, hbr⟩ := hrel
    have HO := Lib.hid ho
    have HZ := Lib.hid hz
    have HBR := Lib.hid hbr
    obtain ⟨p, hp⟩ : ∃ p, off + i = p := ⟨_, rfl⟩
    have HP := Lib.hid hp
    rw [hp]
    by_cases hlt : i < n
    · have hx := HX.out
      have hE := HE.out
      have d1 : (p : Int) < (E : Int) := by omega
      have wp1 : IntKind.i64.wrap ((p : Int) + 1) = ((p + 1 : Nat) : Int) := by rw [IntKind.wrap_i64]; omega
      obtain ⟨q, hq⟩ : ∃ q, p / 8 = q := ⟨_, rfl⟩
      obtain ⟨r, hr⟩ : ∃ r, p % 8 = r := ⟨_, rfl⟩
      obtain ⟨r8, hr8⟩ : ∃ r8, r * 8 = r8 := ⟨_, rfl⟩
      have eq1 : (p : Int) / 8 = (q : Int) := by omega
      have eq2 : (p : Int).tdiv 8 = (q : Int) := by have := tdiv_nat p 8; rw [hq] at this; exact this
      have er1 : (p : Int) % 8 = (r : Int) := by omega
      have er2 : (p : Int).tmod 8 = (r : Int) := by have := tmod_nat p 8; rw [hr] at this; exact this
      have wq : IntKind.i64.wrap (q : Int) = (q : Int) := by rw [IntKind.wrap_i64]; omega
      have wr' : IntKind.i64.wrap (r : Int) = (r : Int) := by rw [IntKind.wrap_i64]; omega
      have wr8 : IntKind.i64.wrap ((r : Int) * 8) = (r8 : Int) := by rw [IntKind.wrap_i64]; omega
      have q0 : (0 : Int) ≤ (q : Int) := by omega
      have qN : (q : Int) < (N : Int) := by omega
      have wu : IntKind.u64.wrap (r8 : Int) = (r8 : Int) := by rw [IntKind.wrap_u64]; omega
      have r0 : ¬ (r8 : Int) < 0 := by omega
      have r1 : (r8 : Int) < 64 := by omega
      have hc := HCELL.out q (by omega) 0 (by decide)
      rw [Nat.mul_one, Nat.add_zero] at hc
      have hc2 : cellAt (obj w g) (off0 + q) = some (.int .u64 (W q)) := hc
      have hc3 := (below_kept hbr).cell hc2 (by simp)
      have hw := HW.out q (by omega)
      have hby : byteW W (off + i) = W q / (2 : Int) ^ r8 % 256 := by unfold byteW; rw [hp, hq, hr, hr8]
      generalize W q = x at hc3 hw hby
      have HBY := Lib.hid hby
      have HI := Lib.hid hlt
      clear hi hlt ho hz hbr hx hE hp hq hr hr8 hc hc2 hby
      go_wp2_with (at_builtin; refine wpList_append_lies _ rfl (.tmp 24) (.tmp 36) 30 rfl w.heap.size 5 i0 _ 1 1 Tryz.underlying30 hi0 hz0 hz1 hz2 rfl (by decide) _ i _ rfl (HO.out.alloc _) ⟨wr.heap.size, 0, none⟩ 1 1 [.int .u8 (x / (2 : Int) ^ r8 % 256)] rfl rfl (news_new _ _ _) (by simp [Value.oneCell']) (by decide) (by have := HX.out; have := HI.out; unfold maxLen; omega) (by have := HX.out; have := HI.out; omega) (by have := HBR.out.size; simp; omega) (wr.heap.size + 1) (by simp) ?_; intro gA capA wA hownA hgrowA hatA hltA)
      exact ⟨⟨i + 1, HI.out, by rw [← Nat.add_assoc, HP.out]; simp, by rw [flatF_succ]; show wA.ownsRow _ _ _ _ _ (_ ++ [Value.int .u8 (byteW W (off + i))]); rw [HBY.out]; exact hownA, fun e => (by omega), below_own HBR.out HBR.out.size HO.out hgrowA⟩, by have := HI.out; have := HP.out; simp only [intOf]; omega⟩
    · have hE := HE.out
      have d1 : ¬ (p : Int) < (E : Int) := by omega
      have e : i = n := by omega
      subst e
      clear hi hlt ho hz hbr hp hE
      go_wp2
      go_ret2
      exact ⟨_, rfl, own_sl HO.out HZ.out, HBR.out⟩
set_option maxRecDepth 100000 in
set_option maxHeartbeats 3200000 in
theorem rsedits_any {w : World} {B B2 N off n : Nat} {v vb : Value} {W c : Nat → Int} (h : SlOf w B v 1 N (wordF W)) (hb : SlOf w B2 vb 1 n (fun i _ => .int .u8 (c i))) (hN : 8 ≤ N ∧ N ≤ 512) (h1 : off + n ≤ N * 8) (h2 : n ≤ 448) (hc : ∀ k, k < n → 0 ≤ c k ∧ c k < 256) :
    Calls Tryz.prog 106 #[v, .int .i64 off, vb] w fun e w' => ∃ v', e = .returned (.tuple #[v', .bool true]) ∧ RowSl w' w.heap.size v' 2 (lineN off n) (edF (fun j => off / 8 + j) (fun j => wrote W off c n (off / 8 + j))) ∧ Below w.heap.size w w' := by
  obtain ⟨i0, hi0, hz0, hz1, hz2⟩ := info_parts' info147
  obtain ⟨g, off0, cap, rfl, _, _, _, hcell⟩ := h.cells (by omega)
  have K0 := Lib.hid (fun w => rinside_any h1 h2 hN.2 w)
  have HCELL := Lib.hid hcell
  have HX := Lib.hid (And.intro hN (And.intro h1 h2))
  obtain ⟨aob, capb, rfl⟩ := hb.form
  have HBY : Hid (∀ k, k < n → ∃ gb offb, aob = some ⟨gb, offb, none⟩ ∧ cellAt (obj w gb) (offb + k) = some (.int .u8 (c k)) ∧ 0 ≤ c k ∧ c k < 256) := Lib.hid (fun k hk => by
    obtain ⟨gb, offb, capb2, e, _, _, _, hcb⟩ := hb.cells (by omega)
    have e1 : aob = some ⟨gb, offb, none⟩ ∧ capb = capb2 := by simpa using e
    have := hcb k hk 0 (by decide)
    rw [Nat.mul_one, Nat.add_zero] at this
    exact ⟨gb, offb, e1.1, this, hc k hk⟩)
  clear h hcell hb hc hN h1 h2
  obtain ⟨q0, hq0⟩ : ∃ q0, off / 8 = q0 := ⟨_, rfl⟩
  rw [hq0]
  have HQ0 := Lib.hid hq0
  clear hq0
  go_enter Tryz.func106, Tryz.ntmps106
  go_wp2_with fail
  refine (K0.out _).mono ?_
  rintro _ _ ⟨rfl, rfl⟩
  go_wp2_with fail
  go_loopw [24, 8] (fun ix s wr => ∃ k : Nat, k ≤ n ∧ ix = .int .i64 k ∧ wr.ownsRow w.heap.size 147 2 s (lineN off k) (flatF 2 (edF (fun j => q0 + j) (fun j => wrote W off c k (q0 + j))) (lineN off k)) ∧ (lineN off k = 0 → s = .slice none 0 0) ∧ Below w.heap.size w wr) (fun ix _ _ => n - (intOf ix).toNat)
  case atStart => exact ⟨0, Nat.zero_le _, rfl, World.ownsRow_nil _ _ _ _, fun _ => rfl, Below.refl _ _⟩
  case round =>
    obtain ⟨k, hk, rfl, ho, hz, hbr⟩ := hrel
    have HO := Lib.hid ho
    have HZ := Lib.hid hz
    have HBR := Lib.hid hbr
    by_cases hlt : k < n
    · have hltz : (k : Int) < (n : Int) := by omega
      have k0 : (0 : Int) ≤ (k : Int) := Int.natCast_nonneg k
      have hx := HX.out
      have wk : IntKind.i64.wrap ((k : Int) + 1) = (k : Int) + 1 := by rw [IntKind.wrap_i64]; omega
      obtain ⟨gb, offb, rfl, hcb, hc0, hc1⟩ := HBY.out k hlt
      replace hcb := (below_kept hbr).cell hcb (by simp)
      obtain ⟨p, hp⟩ : ∃ p, off + k = p := ⟨_, rfl⟩
      obtain ⟨q, hq⟩ : ∃ q, p / 8 = q := ⟨_, rfl⟩
      obtain ⟨r, hr⟩ : ∃ r, p % 8 = r := ⟨_, rfl⟩
      obtain ⟨r8, hr8⟩ : ∃ r8, r * 8 = r8 := ⟨_, rfl⟩
      have wp0 : IntKind.i64.wrap ((off : Int) + (k : Int)) = (p : Int) := by rw [IntKind.wrap_i64]; omega
      have eq1 : (p : Int) / 8 = (q : Int) := by omega
      have eq2 : (p : Int).tdiv 8 = (q : Int) := by have := tdiv_nat p 8; rw [hq] at this; exact this
      have er1 : (p : Int) % 8 = (r : Int) := by omega
      have er2 : (p : Int).tmod 8 = (r : Int) := by have := tmod_nat p 8; rw [hr] at this; exact this
      have wq : IntKind.i64.wrap (q : Int) = (q : Int) := by rw [IntKind.wrap_i64]; omega
      have wr' : IntKind.i64.wrap (r : Int) = (r : Int) := by rw [IntKind.wrap_i64]; omega
      have wr8 : IntKind.i64.wrap ((r : Int) * 8) = (r8 : Int) := by rw [IntKind.wrap_i64]; omega
      have wu : IntKind.u64.wrap (r8 : Int) = (r8 : Int) := by rw [IntKind.wrap_u64]; omega
      have r0 : ¬ (r8 : Int) < 0 := by omega
      have r1 : (r8 : Int) < 64 := by omega
      have q00 : (0 : Int) ≤ (q : Int) := by omega
      have qN : (q : Int) < (N : Int) := by omega
      have hcq := HCELL.out q (by omega) 0 (by decide)
      rw [Nat.mul_one, Nat.add_zero] at hcq
      replace hcq : cellAt (obj w g) (off0 + q) = some (.int .u64 (W q)) := hcq
      replace hcq := (below_kept hbr).cell hcq (by simp)
      have wc : IntKind.u64.wrap (c k) = c k := by rw [IntKind.wrap_u64]; omega
      obtain ⟨hn1, hn2, hn3⟩ := lineN_next off k
      rw [hp, hq] at hn1 hn3
      rw [HQ0.out] at hn3
      have HI := Lib.hid hlt
      have hnle := lineN_le off (k + 1)
      obtain ⟨n1, hn1'⟩ : ∃ n1, lineN off (k + 1) = n1 := ⟨_, rfl⟩
      obtain ⟨n0, hn0'⟩ : ∃ n0, lineN off k = n0 := ⟨_, rfl⟩
      rw [hn1'] at hn1 hn2 hn3 hnle
      rw [hn0'] at hn1 HO HZ
      obtain ⟨l, hl⟩ : ∃ l, n1 - 1 = l := ⟨_, rfl⟩
      rw [hl] at hn3
      have hql := hn3
      have HW1 : Hid (wrote W off c (k + 1) = updF (wrote W off c k) q (putB (wrote W off c k q) r8 (c k))) := Lib.hid (by show updF _ ((off + k) / 8) _ = _; rw [hp, hq, hr, hr8])
      have HN := Lib.hid (And.intro hn1' (And.intro hn1 (And.intro hn2 (And.intro hn3 (And.intro hl (show n1 ≤ 448 by omega))))))
      by_cases hnew : k = 0 ∨ (p - 1) / 8 ≠ q
      · rw [if_pos hnew] at hn1
        have HWP : Hid (wrote W off c k q = W q) := Lib.hid (wrote_past W off c k q fun j hj => by omega)
        by_cases h0 : k = 0
        · have hn00 : n0 = 0 := by rw [← hn0', h0]; rfl
          have hs := HZ.out hn00
          subst hs
          have hq0n : q0 + n0 = q := by omega
          have hln : l = n0 := by omega
          subst hln
          clear h0 hn00 hnew
          -- a new word
          have hnews : (List.range 2).map (edF (fun j => q0 + j) (fun j => wrote W off c k (q0 + j)) l) = [.int .i64 (q : Int), .int .u64 (W q)] := by
            rw [ed_news]
            simp only [hq0n, HWP.out]
          have HNW := Lib.hid hnews
          have HXA := Lib.hid (show l ≤ 448 by omega)
          generalize hwq : W q = xq at hcq
          have HWQ := Lib.hid hwq
          clear hnews
          have wl : IntKind.i64.wrap ((n1 : Int) - 1) = (l : Int) := by rw [IntKind.wrap_i64]; omega
          have l0 : (0 : Int) ≤ (l : Int) := by omega
          have l1 : (l : Int) < (n1 : Int) := by omega
          go_upto_region 11 with (at_builtin; refine wpList_append_lies _ rfl (.tmp 53) (.tmp 60) 115 rfl w.heap.size 147 i0 _ 2 16 Tryz.underlying115 hi0 hz0 hz1 hz2 rfl (by decide) _ l _ rfl (HO.out.alloc _) ⟨wr.heap.size, 0, none⟩ 1 1 [.int .i64 q, .int .u64 xq] rfl rfl (news_new _ _ _) (by simp [Value.oneCell']) (by decide) (by have := HXA.out; unfold maxLen; omega) (by have := HXA.out; omega) (by have := HBR.out.size; simp; omega) (wr.heap.size + 1) (by simp) ?_; intro gA capA wA hownA hgrowA hatA hltA; rw [← hn1])
          have HBX : Hid (Below w.heap.size w wA) := Lib.hid (below_own HBR.out HBR.out.size HO.out hgrowA)
          rw [← HWQ.out, ← HNW.out, ← flatF_succ, ← hn1] at hownA
          have HOC := Lib.hid hownA
          -- the tail: the word's own value
          have hcl := HOC.out.cellAt (l * 2 + 1) (by omega)
          have h1 := flatF_get 2 (edF (fun j => q0 + j) (fun j => wrote W off c k (q0 + j))) n1 l 1 (by omega) (by decide)
          rw [h1, cell?_heap] at hcl
          replace hcl : cellAt (obj wA gA) (l * 2 + 1) = some (.int .u64 (wrote W off c k (q0 + l))) := hcl
          rw [hql] at hcl
          have hfz := HOC.out.frozenAt (l * 2 + 1)
          rw [frozen?_heap] at hfz
          have hgl := lt_of_cell hcl
          have hgs := (HOC.out.lt gA rfl).1
          have HgA := Lib.hid hgs
          generalize hx0 : wrote W off c k q = x at hcl
          clear h1 hgs
          have hst := (World.ownsRow.stored HOC.out (l * 2 + 1) (.int .u64 (putB x r8 (c k)))).1
          rw [flat_ed_set, ed_next HN.out.2.2.2.1 (by rw [HW1.out, hx0])] at hst
          rw [← HN.out.1] at hst
          have HST2 := Lib.hid hst
          have HBM := HBX
          clear hst HOC
          go_wp2_with fail
          exact ⟨⟨k + 1, HI.out, by simp, by rw [HN.out.1]; have := HST2.out; rw [HN.out.1] at this; first | exact this | (rw [show l + 1 = n1 by have h1 := HN.out.2.2.1; have h2 := HN.out.2.2.2.2.1; omega]; exact this), (fun e => by have h1 := HN.out.1; have h2 := HN.out.2.2.1; omega), HBM.out.setCell HgA.out _⟩, by have := HI.out; simp only [intOf]; omega⟩
        · have hp1 := (lineN_next off (k - 1)).2
          rw [show k - 1 + 1 = k by omega, hn0', HQ0.out, show off + (k - 1) = p - 1 by omega] at hp1
          obtain ⟨gs, caps, rfl, hgs1, hgs2⟩ := HO.out.form (by omega)
          obtain ⟨lb, hlb⟩ : ∃ lb, n0 - 1 = lb := ⟨_, rfl⟩
          have hcw := HO.out.cellAt (lb * 2) (by omega)
          have h1 := flatF_get 2 (edF (fun j => q0 + j) (fun j => wrote W off c k (q0 + j))) n0 lb 0 (by omega) (by decide)
          rw [Nat.add_zero] at h1
          rw [h1, cell?_heap] at hcw
          replace hcw : cellAt (obj wr gs) (lb * 2) = some (.int .i64 ((q0 + lb : Nat) : Int)) := hcw
          obtain ⟨zb, hzb⟩ : ∃ zb, q0 + lb = zb := ⟨_, rfl⟩
          rw [hzb] at hcw
          have wlb : IntKind.i64.wrap ((n0 : Int) - 1) = (lb : Int) := by rw [IntKind.wrap_i64]; omega
          have lb0 : (0 : Int) ≤ (lb : Int) := by omega
          have lb1 : (lb : Int) < (n0 : Int) := by omega
          have hn00 : ((n0 : Int) == 0) = false := by simp; omega
          have hzq : ((zb : Int) == (q : Int)) = false := by simp; omega
          have hgsz := lt_of_cell hcw
          have hq0n : q0 + n0 = q := by omega
          have hln : l = n0 := by omega
          subst hln
          clear h0 hnew hp1 h1 hlb hzb hgs1 hgs2
          -- a new word
          have hnews : (List.range 2).map (edF (fun j => q0 + j) (fun j => wrote W off c k (q0 + j)) l) = [.int .i64 (q : Int), .int .u64 (W q)] := by
            rw [ed_news]
            simp only [hq0n, HWP.out]
          have HNW := Lib.hid hnews
          have HXA := Lib.hid (show l ≤ 448 by omega)
          generalize hwq : W q = xq at hcq
          have HWQ := Lib.hid hwq
          clear hnews
          have wl : IntKind.i64.wrap ((n1 : Int) - 1) = (l : Int) := by rw [IntKind.wrap_i64]; omega
          have l0 : (0 : Int) ≤ (l : Int) := by omega
          have l1 : (l : Int) < (n1 : Int) := by omega
          go_upto_region 11 with (at_builtin; refine wpList_append_lies _ rfl (.tmp 53) (.tmp 60) 115 rfl w.heap.size 147 i0 _ 2 16 Tryz.underlying115 hi0 hz0 hz1 hz2 rfl (by decide) _ l _ rfl (HO.out.alloc _) ⟨wr.heap.size, 0, none⟩ 1 1 [.int .i64 q, .int .u64 xq] rfl rfl (news_new _ _ _) (by simp [Value.oneCell']) (by decide) (by have := HXA.out; unfold maxLen; omega) (by have := HXA.out; omega) (by have := HBR.out.size; simp; omega) (wr.heap.size + 1) (by simp) ?_; intro gA capA wA hownA hgrowA hatA hltA; rw [← hn1])
          have HBX : Hid (Below w.heap.size w wA) := Lib.hid (below_own HBR.out HBR.out.size HO.out hgrowA)
          rw [← HWQ.out, ← HNW.out, ← flatF_succ, ← hn1] at hownA
          have HOC := Lib.hid hownA
          -- the tail: the word's own value
          have hcl := HOC.out.cellAt (l * 2 + 1) (by omega)
          have h1 := flatF_get 2 (edF (fun j => q0 + j) (fun j => wrote W off c k (q0 + j))) n1 l 1 (by omega) (by decide)
          rw [h1, cell?_heap] at hcl
          replace hcl : cellAt (obj wA gA) (l * 2 + 1) = some (.int .u64 (wrote W off c k (q0 + l))) := hcl
          rw [hql] at hcl
          have hfz := HOC.out.frozenAt (l * 2 + 1)
          rw [frozen?_heap] at hfz
          have hgl := lt_of_cell hcl
          have hgs := (HOC.out.lt gA rfl).1
          have HgA := Lib.hid hgs
          generalize hx0 : wrote W off c k q = x at hcl
          clear h1 hgs
          have hst := (World.ownsRow.stored HOC.out (l * 2 + 1) (.int .u64 (putB x r8 (c k)))).1
          rw [flat_ed_set, ed_next HN.out.2.2.2.1 (by rw [HW1.out, hx0])] at hst
          rw [← HN.out.1] at hst
          have HST2 := Lib.hid hst
          have HBM := HBX
          clear hst HOC
          go_wp2_with fail
          exact ⟨⟨k + 1, HI.out, by simp, by rw [HN.out.1]; have := HST2.out; rw [HN.out.1] at this; first | exact this | (rw [show l + 1 = n1 by have h1 := HN.out.2.2.1; have h2 := HN.out.2.2.2.2.1; omega]; exact this), (fun e => by have h1 := HN.out.1; have h2 := HN.out.2.2.1; omega), HBM.out.setCell HgA.out _⟩, by have := HI.out; simp only [intOf]; omega⟩
      · rw [if_neg hnew] at hn1
        obtain ⟨gs, caps, rfl, hgs1, hgs2⟩ := HO.out.form (by omega)
        have HOC : Hid (wr.ownsRow w.heap.size 147 2 (.slice (some ⟨gs, 0, none⟩) n1 caps) n1 (flatF 2 (edF (fun j => q0 + j) (fun j => wrote W off c k (q0 + j))) n1)) := Lib.hid (by rw [hn1]; exact HO.out)
        have e0 : n0 = n1 := hn1.symm
        subst e0
        -- the last one's word
        have hcw := HO.out.cellAt (l * 2) (by omega)
        have h1 := flatF_get 2 (edF (fun j => q0 + j) (fun j => wrote W off c k (q0 + j))) n0 l 0 (by omega) (by decide)
        rw [Nat.add_zero] at h1
        rw [h1, cell?_heap] at hcw
        replace hcw : cellAt (obj wr gs) (l * 2) = some (.int .i64 ((q0 + l : Nat) : Int)) := hcw
        rw [hql] at hcw
        have hn00 : ((n0 : Int) == 0) = false := by simp; omega
        have HBX := HBR
        clear h1
        have wl : IntKind.i64.wrap ((n0 : Int) - 1) = (l : Int) := by rw [IntKind.wrap_i64]; omega
        have l0 : (0 : Int) ≤ (l : Int) := by omega
        have l1 : (l : Int) < (n0 : Int) := by omega
        go_upto_region 11 with fail
        -- the tail: the word's own value
        have hcl := HOC.out.cellAt (l * 2 + 1) (by omega)
        have h1 := flatF_get 2 (edF (fun j => q0 + j) (fun j => wrote W off c k (q0 + j))) n0 l 1 (by omega) (by decide)
        rw [h1, cell?_heap] at hcl
        replace hcl : cellAt (obj wr gs) (l * 2 + 1) = some (.int .u64 (wrote W off c k (q0 + l))) := hcl
        rw [hql] at hcl
        have hfz := HOC.out.frozenAt (l * 2 + 1)
        rw [frozen?_heap] at hfz
        have hgl := lt_of_cell hcl
        have hgs := (HOC.out.lt gs rfl).1
        have Hgs := Lib.hid hgs
        generalize hx0 : wrote W off c k q = x at hcl
        clear h1 hgs
        have hst := (World.ownsRow.stored HOC.out (l * 2 + 1) (.int .u64 (putB x r8 (c k)))).1
        rw [flat_ed_set, ed_next HN.out.2.2.2.1 (by rw [HW1.out, hx0])] at hst
        rw [← HN.out.1] at hst
        have HST2 := Lib.hid hst
        have HBM := HBX
        clear hst HOC
        go_wp2_with fail
        exact ⟨⟨k + 1, HI.out, by simp, by rw [HN.out.1]; have := HST2.out; rw [HN.out.1] at this; first | exact this | (rw [show l + 1 = n0 by have h1 := HN.out.2.2.1; have h2 := HN.out.2.2.2.2.1; omega]; exact this), (fun e => by have h1 := HN.out.1; have h2 := HN.out.2.2.1; omega), HBM.out.setCell Hgs.out _⟩, by have := HI.out; simp only [intOf]; omega⟩
    · have e : k = n := by omega
      subst e
      have hltz : ¬ (k : Int) < (k : Int) := by omega
      have HR := Lib.hid (own_row ho hz)
      clear hk hlt ho hz hbr
      go_wp2
      go_ret2
      exact ⟨_, rfl, HR.out, HBR.out⟩
end Go.Proofs.YtphmfaddgpjndaaGreat

/- The reference model: its images; the box of a model. -/
namespace Go.Proofs.YtphmfaddgpjndaaGreat
open Go.ChangeShapes Go.WideShapes Go.RowKit Go.Maps

/-! ### images -/
set_option maxRecDepth 100000 in
set_option maxHeartbeats 3200000 in
theorem rifree_any {w : World} {B L : Nat} {v : Value} {W : Nat → Int} {b : Bs} {i : Nat} {o : Int} (h : SlOf w B v 1 (L * 8) (wordF W)) (hb : b.Ok (L * 8)) (he : Enc W b) (hi : i < b.n) (hp : findP o (b.at i, b.sz i, b.us i) = true) :
    Calls Tryz.prog 69 #[v, .int .i64 o] w fun e w' => ∃ v', e = .returned (.tuple #[v', .int .i64 0]) ∧
      RowSl w' w.heap.size v' 2 1 (edF (fun _ => b.at (fromM b i)) (fun _ => (hdr (b.at (toM b i) - b.at (fromM b i)) false : Nat))) ∧ Below w.heap.size w w' := by
  obtain ⟨i0, hi0, hz0, hz1, hz2⟩ := info_parts' info147
  have hui := (findP_bound hb hi hp).1
  have ha := around_of hb hi
  have hle := hb.at_le ha.hi
  have hmo := b.at_mono (show i + 1 ≤ toM b i by have := ha.lo; omega)
  have hmo2 := b.at_mono ha.lo.1
  rw [b.at_succ] at hmo
  have hsz := hb.size hi
  have hbig := hb.big
  have KW := fun w => rword_any (b.at (toM b i) - b.at (fromM b i)) false (by omega) w
  have KB := Lib.hid (rblocks_any h hb he)
  have KI := Lib.hid (fun w1 v1 (h1 : RowSl w1 w.heap.size v1 3 b.n (blkF b)) => ris_any (w := w1) h1 hb hi hp)
  have KM := fun w1 v1 (h1 : RowSl w1 w.heap.size v1 3 b.n (blkF b)) => rmerged_any (w := w1) h1 hb hi hui
  generalize b.at (toM b i) - b.at (fromM b i) = S at KW KM ⊢
  generalize b.at (fromM b i) = z at KM ⊢
  generalize fromM b i = f at KM
  obtain ⟨hd, hhd⟩ : ∃ x, hdr S false = x := ⟨_, rfl⟩
  rw [hhd] at KW ⊢
  have KW := Lib.hid KW
  have KM := Lib.hid KM
  obtain ⟨ao, cap, rfl⟩ := h.form
  clear h hb he hi hp hui ha hle hmo hmo2 hsz hbig hhd
  go_enter Tryz.func69, Tryz.ntmps69
  go_wp2_with fail
  refine KB.out.mono ?_
  rintro _ w1 ⟨v1, rfl, hr, hb1⟩
  have HR := Lib.hid hr
  have HB1 := Lib.hid hb1
  clear hr hb1 KB
  go_wp2_with fail
  refine (KI.out _ _ HR.out).mono ?_
  rintro _ w2 ⟨rfl, hb2⟩
  have HR2 := Lib.hid (HR.out.below hb2)
  have HB2 := Lib.hid (HB1.out.trans (hb2.mono HB1.out.size))
  clear hb2 KI HR HB1
  go_wp2_with fail
  refine (KM.out _ _ HR2.out).mono ?_
  rintro _ w3 ⟨G, m, c, rfl, hfm, hm, hG, hc0, hc1, hb3⟩
  have HB3 := Lib.hid (HB2.out.trans (hb3.mono HB2.out.size))
  have f0 : (0 : Int) ≤ (f : Int) := Int.natCast_nonneg f
  have f1 : (f : Int) < (m : Int) := by omega
  clear hb3 KM HB2 HR2 hfm hm
  go_wp2_with fail
  refine wp_region_more_tail 12 (by kernel_rfl) (by kernel_rfl) (by kernel_rfl) ?_
  simp only [List.take_succ_cons, List.take_zero, List.drop_succ_cons, List.drop_zero]
  repeat (go_big_quiet_step ((go_at_call 62; exact more_call ((KW.out _).mono (by rintro _ _ ⟨rfl, rfl⟩; exact ⟨rfl, Below.refl _ _⟩)))))
  refine wpQuiet_nil ?_
  intro _ hw'
  obtain ⟨x, hw''⟩ := hw'
  subst hw''
  have HB4 : Hid (Below w.heap.size w (more w3 x)) := Lib.hid (HB3.out.trans ((more_below w3 x).mono HB3.out.size))
  change wpList _ _ _ _ _ (more w3 x)
  generalize more w3 x = w4 at HB4 ⊢
  clear hc0 hc1 hG KW
  go_wp2_with fail
  go_ret2
  refine ⟨_, rfl, own_row (e := 147) ?_ (fun e => by omega), HB4.out.alloc HB4.out.size _⟩
  have h1 := World.ownsRow_lit (base := w.heap.size) (e := 147) (size := 2) w4 #[.int .i64 z, .int .u64 hd] 1 HB4.out.size (by decide) rfl
  exact h1
set_option maxRecDepth 100000 in
set_option maxHeartbeats 3200000 in
theorem riread_any {w : World} {B L : Nat} {v : Value} {W : Nat → Int} {b : Bs} {o n : Int} (h : SlOf w B v 1 (L * 8) (wordF W)) (hb : b.Ok (L * 8)) (he : Enc W b) (hw : WOk (L * 8) W) (hh : holdsN b o n = true) :
    Calls Tryz.prog 79 #[v, .int .i64 o, .int .i64 n] w fun e w' => ∃ v', e = .returned (.tuple #[v', .int .i64 0]) ∧ SlOf w' w.heap.size v' 1 n.toNat (fun i _ => .int .u8 (byteW W (o.toNat + i))) ∧ Below w.heap.size w w' := by
  have hbig := hb.big
  have KB := Lib.hid (rblocks_any h hb he)
  have KI := Lib.hid (fun w1 v1 (h1 : RowSl w1 w.heap.size v1 3 b.n (blkF b)) => rwithin_any (w := w1) h1 hb hh)
  obtain ⟨oo, nn, rfl, rfl, h1, h2, h3⟩ := holdsN_bound hb hh
  have KR := Lib.hid (fun w1 (hb1 : Below w.heap.size w w1) => rread_any (off := oo) (n := nn) (h.below hb1) (by omega) h2 h3 hw)
  obtain ⟨ao, cap, rfl⟩ := h.form
  clear h hb he hh hbig h1 h2 h3 hw
  go_enter Tryz.func79, Tryz.ntmps79
  go_wp2_with fail
  refine KB.out.mono ?_
  rintro _ w1 ⟨v1, rfl, hr, hb1⟩
  have HR := Lib.hid hr
  have HB1 := Lib.hid hb1
  clear hr hb1 KB
  go_wp2_with fail
  refine (KI.out _ _ HR.out).mono ?_
  rintro _ w2 ⟨rfl, hb2⟩
  have HB2 := Lib.hid (HB1.out.trans (hb2.mono HB1.out.size))
  clear hb2 KI HR HB1
  go_wp2_with fail
  refine (KR.out _ HB2.out).mono ?_
  rintro _ w3 ⟨v3, rfl, hs, hb3⟩
  have HS := Lib.hid (hs.mono HB2.out.size)
  have HB3 := Lib.hid (HB2.out.trans (hb3.mono HB2.out.size))
  obtain ⟨ao3, cap3, rfl⟩ := hs.form
  clear hs hb3 KR
  go_wp2_with fail
  go_ret2
  exact ⟨_, rfl, HS.out, HB3.out⟩
set_option maxRecDepth 100000 in
set_option maxHeartbeats 3200000 in
theorem riwrite_any {w : World} {B B2 L k : Nat} {v d : Value} {W c : Nat → Int} {b : Bs} {o : Int} (h : SlOf w B v 1 (L * 8) (wordF W)) (hb : b.Ok (L * 8)) (he : Enc W b) (hd : SlOf w B2 d 1 k (fun i _ => .int .u8 (c i))) (hc : ∀ i, i < k → 0 ≤ c i ∧ c i < 256) (hh : holdsN b o k = true) :
    Calls Tryz.prog 70 #[v, .int .i64 o, d] w fun e w' => ∃ v', e = .returned (.tuple #[v', .int .i64 0]) ∧ RowSl w' w.heap.size v' 2 (lineN o.toNat k) (edF (fun j => o.toNat / 8 + j) (fun j => wrote W o.toNat c k (o.toNat / 8 + j))) ∧ Below w.heap.size w w' := by
  have hbig := hb.big
  have KB := Lib.hid (rblocks_any h hb he)
  have KI := Lib.hid (fun w1 v1 (h1 : RowSl w1 w.heap.size v1 3 b.n (blkF b)) => rwithin_any (w := w1) h1 hb hh)
  obtain ⟨oo, nn, rfl, hnn, h1, h2, h3⟩ := holdsN_bound hb hh
  obtain rfl : nn = k := by omega
  have KR := Lib.hid (fun w1 (hb1 : Below w.heap.size w w1) => rsedits_any (off := oo) (h.below hb1) (hd.below hb1) (by omega) h2 h3 hc)
  obtain ⟨ao, cap, rfl⟩ := h.form
  obtain ⟨aod, capd, rfl⟩ := hd.form
  clear h hb he hh hbig h1 h2 h3 hc hd hnn
  rw [Int.toNat_natCast]
  go_enter Tryz.func70, Tryz.ntmps70
  go_wp2_with fail
  refine KB.out.mono ?_
  rintro _ w1 ⟨v1, rfl, hr, hb1⟩
  have HR := Lib.hid hr
  have HB1 := Lib.hid hb1
  clear hr hb1 KB
  go_wp2_with fail
  refine (KI.out _ _ HR.out).mono ?_
  rintro _ w2 ⟨rfl, hb2⟩
  have HB2 := Lib.hid (HB1.out.trans (hb2.mono HB1.out.size))
  clear hb2 KI HR HB1
  go_wp2_with fail
  refine (KR.out _ HB2.out).mono ?_
  rintro _ w3 ⟨v3, rfl, hs, hb3⟩
  have HS := Lib.hid (hs.mono HB2.out.size)
  have HB3 := Lib.hid (HB2.out.trans (hb3.mono HB2.out.size))
  obtain ⟨ao3, cap3, rfl⟩ := hs.form
  clear hs hb3 KR
  go_wp2_with fail
  go_ret2
  exact ⟨_, rfl, HS.out, HB3.out⟩
end Go.Proofs.YtphmfaddgpjndaaGreat

/- The reference model's box: NewModel, Blocks, Clone, Free, Write, SetRoot, Read. -/
namespace Go.Proofs.YtphmfaddgpjndaaGreat
open Go.ChangeShapes Go.WideShapes Go.RowKit Go.Maps

/-- a model lies in a block, its words in another -/
def MAt (w : World) (B M N : Nat) (W : Nat → Int) (r : Int) : Prop :=
  B ≤ M ∧ ∃ g off cap, obj w M = some (.cells #[.slice (some ⟨g, off, none⟩) N cap, .int .i64 r] 76 (0, 0)) ∧ g ≠ M ∧ SlOf w B (.slice (some ⟨g, off, none⟩) N cap) 1 N (wordF W)
section
variable {w w' : World} {B M N : Nat} {W : Nat → Int} {r : Int}
theorem MAt.kept {L : List Nat} (h : MAt w B M N W r) (q : Kept L w w') (hL : ∀ x ∈ L, x < B) : MAt w' B M N W r := by
  obtain ⟨hM, g, off, cap, ho, hne, hs⟩ := h
  exact ⟨hM, g, off, cap, q.keep ho (fun hx => by have := hL M hx; omega), hne, hs.kept q hL⟩
theorem MAt.below (h : MAt w B M N W r) (q : Below w.heap.size w w') : MAt w' B M N W r := h.kept (below_kept q) (by simp)
theorem MAt.mono {B' : Nat} (h : MAt w B M N W r) (hB : B' ≤ B) : MAt w B' M N W r := by
  obtain ⟨hM, g, off, cap, ho, hne, hs⟩ := h
  exact ⟨by omega, g, off, cap, ho, hne, hs.mono hB⟩
theorem MAt.congr {W' : Nat → Int} (h : MAt w B M N W r) (e : ∀ i, i < N → W i = W' i) : MAt w B M N W' r := by
  obtain ⟨hM, g, off, cap, ho, hne, hs⟩ := h
  exact ⟨hM, g, off, cap, ho, hne, hs.congr fun i hi t _ => by show Value.int .u64 _ = Value.int .u64 _; rw [e i hi]⟩
theorem MAt.lt (h : MAt w B M N W r) : M < w.heap.size := by
  obtain ⟨hM, g, off, cap, ho, hne, hs⟩ := h
  exact lt_of_obj ho
/-- its words put anew -/
theorem MAt.words {w1 : World} (h : MAt w B M N W r) (hB : B ≤ w.heap.size) (h0 : 0 < N) (q : Below w.heap.size w w1) {v : Value} {W' : Nat → Int} (hv : SlOf w1 w.heap.size v 1 N (wordF W')) : MAt (w1.setCell ⟨M, 0, none⟩ v) B M N W' r := by
  have hlt := h.lt
  obtain ⟨hM, g, off, cap, ho, hne, hs⟩ := h
  obtain ⟨g1, off1, cap1, rfl, _, _, hg1, _⟩ := hv.cells h0
  refine ⟨hM, g1, off1, cap1, ?_, by omega, ?_⟩
  · rw [obj_setCell_eq, keep q ho]; rfl
  · exact (hv.kept ((Kept.refl [M] w1).setCell (p := ⟨M, 0, none⟩) _ (Or.inl (by simp))) (fun x hx => by simp at hx; omega)).mono hB
/-- its root put anew -/
theorem MAt.root {r' : Int} (h : MAt w B M N W r) (h0 : 0 < N) : MAt (w.setCell ⟨M, 1, none⟩ (.int .i64 r')) B M N W r' := by
  obtain ⟨hM, g, off, cap, ho, hne, hs⟩ := h
  refine ⟨hM, g, off, cap, by rw [obj_setCell_eq, ho]; rfl, hne, ?_⟩
  obtain ⟨g1, off1, cap1, e, h1, h2, hg1, hc⟩ := hs.cells h0
  obtain ⟨⟨rfl, rfl⟩, rfl⟩ : (g = g1 ∧ off = off1) ∧ cap = cap1 := by simpa using e
  refine Or.inr ⟨g, off, cap, rfl, h0, h1, h2, hg1, fun i hi t ht => ?_⟩
  rw [obj_setCell_ne _ _ _ g hne]
  exact hc i hi t ht

set_option maxRecDepth 100000 in
set_option maxHeartbeats 1600000 in
theorem rnew_any (w : World) (L : Nat) (hL : 1 ≤ L ∧ L ≤ 64) : Calls Tryz.prog 12 #[.int .i64 (L * 8 : Nat)] w fun e w' => ∃ M, e = .returned (.pointer (some ⟨M, 0, none⟩)) ∧ MAt w' w.heap.size M (L * 8) (firstW (L * 8)) 0 ∧ Below w.heap.size w w' := by
  have KM := Lib.hid (fun w => rmayw_any L hL w)
  have KF := Lib.hid (rfirst_any w L hL)
  have h0 : 0 < L * 8 := by omega
  obtain ⟨N, hN⟩ : ∃ N, L * 8 = N := ⟨_, rfl⟩
  rw [hN] at KM KF h0 ⊢
  have H0 := Lib.hid h0
  clear hN h0 hL
  go_enter Tryz.func12, Tryz.ntmps12
  go_wp2_with fail
  refine (KM.out _).mono ?_
  rintro _ _ ⟨rfl, rfl⟩
  go_wp2_with fail
  refine KF.out.mono ?_
  rintro _ w1 ⟨v, rfl, hr, hb1⟩
  obtain ⟨g, off, cap, rfl, _, _, hg, hgl, _⟩ := hr.cells H0.out
  have HR := Lib.hid hr.sl
  have HB := Lib.hid hb1
  have HG := Lib.hid (And.intro hg hgl)
  clear hr hb1 hg hgl KF KM
  go_wp2_with fail
  go_ret
  have hb2 := (Below.refl w1.heap.size w1).alloc (Nat.le_refl _) (.cells #[.slice (some ⟨g, off, none⟩) N cap, .int .i64 0] 76)
  exact ⟨_, rfl, ⟨HB.out.size, g, off, cap, newA _ _, by have := HG.out.2; omega, HR.out.below hb2⟩, HB.out.alloc HB.out.size _⟩
set_option maxRecDepth 100000 in
set_option maxHeartbeats 1600000 in
theorem rmblocks_any {b : Bs} {L : Nat} (h : MAt w B M (L * 8) W r) (hb : b.Ok (L * 8)) (he : Enc W b) :
    Calls Tryz.prog 13 #[.pointer (some ⟨M, 0, none⟩)] w fun e w' => ∃ v', e = .returned v' ∧ RowSl w' w.heap.size v' 3 b.n (blkF b) ∧ Below w.heap.size w w' := by
  have hlt := h.lt
  obtain ⟨hM, g, off, cap, ho, hne, hs⟩ := h
  have KB := Lib.hid (rblocks_any hs hb he)
  clear hs hb he hM hne
  go_enter Tryz.func13, Tryz.ntmps13
  go_wp2_with fail
  refine KB.out.mono ?_
  rintro _ w1 ⟨v1, rfl, hr, hb1⟩
  have HR := Lib.hid hr
  have HB1 := Lib.hid hb1
  obtain ⟨ao1, cap1, rfl⟩ := hr.form
  clear hr hb1 KB ho hlt
  go_wp2_with fail
  go_ret
  exact ⟨_, rfl, HR.out, HB1.out⟩
set_option maxRecDepth 100000 in
set_option maxHeartbeats 1600000 in
theorem rmread_any {b : Bs} {L : Nat} {o n : Int} (h : MAt w B M (L * 8) W r) (hb : b.Ok (L * 8)) (he : Enc W b) (hw : WOk (L * 8) W) (hh : holdsN b o n = true) :
    Calls Tryz.prog 44 #[.pointer (some ⟨M, 0, none⟩), .int .i64 o, .int .i64 n] w fun e w' => ∃ v', e = .returned (.tuple #[v', .int .i64 0]) ∧ SlOf w' w.heap.size v' 1 n.toNat (fun i _ => .int .u8 (byteW W (o.toNat + i))) ∧ Below w.heap.size w w' := by
  have hlt := h.lt
  obtain ⟨hM, g, off, cap, ho, hne, hs⟩ := h
  have KB := Lib.hid (riread_any hs hb he hw hh)
  clear hs hb he hM hne hw hh
  go_enter Tryz.func44, Tryz.ntmps44
  go_wp2_with fail
  refine KB.out.mono ?_
  rintro _ w1 ⟨v1, rfl, hr, hb1⟩
  have HR := Lib.hid hr
  have HB1 := Lib.hid hb1
  obtain ⟨ao1, cap1, rfl⟩ := hr.form
  clear hr hb1 KB ho hlt
  go_wp2_with fail
  go_ret2
  exact ⟨_, rfl, HR.out, HB1.out⟩
set_option maxRecDepth 100000 in
set_option maxHeartbeats 3200000 in
theorem rfree_any {b : Bs} {L i : Nat} {o : Int} (h : MAt w B M (L * 8) W r) (hB : B ≤ w.heap.size) (hb : b.Ok (L * 8)) (he : Enc W b) (hi : i < b.n) (hp : findP o (b.at i, b.sz i, b.us i) = true) (hr : r ≠ o) :
    Calls Tryz.prog 38 #[.pointer (some ⟨M, 0, none⟩), .int .i64 o] w fun e w' => ∃ v', e = .returned v' ∧ MAt w' B M (L * 8) (merW b W (fromM b i) (toM b i)) r ∧ Kept [M] w w' := by
  have hbig := hb.big
  have hlt := h.lt
  have HM := Lib.hid h
  obtain ⟨hM, g, off, cap, ho, hne, hs⟩ := h
  have KF := Lib.hid (rifree_any hs hb he hi hp)
  have hfl := fromM_le b i
  have htl := toM_le b hi
  have hat := hb.lt (show fromM b i < b.n by omega)
  have KA := Lib.hid (fun w1 vl (hb1 : Below w.heap.size w w1) (hl : RowSl w1 w.heap.size vl 2 1 (edF (fun _ => b.at (fromM b i)) (fun _ => (hdr (b.at (toM b i) - b.at (fromM b i)) false : Nat)))) =>
    rapply_any (a0 := b.at (fromM b i)) (hs.below hb1) hl (fun j hj => by omega) (by omega) (by omega) (by omega))
  have hro : (r == o) = false := by simpa using hr
  have HB := Lib.hid (And.intro hB (show 0 < L * 8 by omega))
  clear hs hb he hi hp hr hbig hM hne hfl htl hat hB
  go_enter Tryz.func38, Tryz.ntmps38
  go_wp2_with fail
  refine KF.out.mono ?_
  rintro _ w1 ⟨v1, rfl, hl, hb1⟩
  have HL := Lib.hid hl
  have HB1 := Lib.hid hb1
  obtain ⟨ao1, cap1, rfl⟩ := hl.form
  replace ho := keep hb1 ho
  have hlt1 := lt_of_obj ho
  clear hl hb1 KF hlt
  go_wp2_with fail
  refine (KA.out _ _ HB1.out HL.out).mono ?_
  rintro _ w2 ⟨v2, rfl, hr2, hb2⟩
  have HR2 := Lib.hid (hr2.sl.mono HB1.out.size)
  have HB2 := Lib.hid (HB1.out.trans (hb2.mono HB1.out.size))
  obtain ⟨ao2, cap2, rfl⟩ := hr2.form
  replace ho := keep hb2 ho
  have hlt2 := lt_of_obj ho
  clear hr2 hb2 KA hlt1 HL HB1
  go_wp2_with fail
  go_ret
  refine ⟨_, rfl, HM.out.words HB.out.1 HB.out.2 HB2.out HR2.out, (Kept.of_below HB2.out).setCell _ (Or.inl (by simp))⟩
set_option maxRecDepth 100000 in
set_option maxHeartbeats 3200000 in
theorem rwrite_any {b : Bs} {B2 L k : Nat} {o : Int} {d : Value} {c : Nat → Int} (h : MAt w B M (L * 8) W r) (hB : B ≤ w.heap.size) (hb : b.Ok (L * 8)) (he : Enc W b) (hd : SlOf w B2 d 1 k (fun i _ => .int .u8 (c i))) (hc : ∀ i, i < k → 0 ≤ c i ∧ c i < 256) (hh : holdsN b o k = true) :
    Calls Tryz.prog 39 #[.pointer (some ⟨M, 0, none⟩), .int .i64 o, d] w fun e w' => ∃ v', e = .returned v' ∧ MAt w' B M (L * 8) (wroteW W o.toNat k c) r ∧ Kept [M] w w' := by
  have hbig := hb.big
  have hlt := h.lt
  have HM := Lib.hid h
  obtain ⟨hM, g, off, cap, ho, hne, hs⟩ := h
  have KF := Lib.hid (riwrite_any hs hb he hd hc hh)
  obtain ⟨oo, nn, e1, e2, h1, h2, h3⟩ := holdsN_bound hb hh
  have hn1 : o.toNat / 8 + lineN o.toNat k ≤ L * 8 := by
    subst e1
    rw [Int.toNat_natCast]
    unfold lineN
    split <;> omega
  have KA := fun w1 vl (hb1 : Below w.heap.size w w1) (hl : RowSl w1 w.heap.size vl 2 (lineN o.toNat k) (edF (fun j => o.toNat / 8 + j) (fun j => wrote W o.toNat c k (o.toNat / 8 + j)))) =>
    rapply_any (a0 := o.toNat / 8) (hs.below hb1) hl (fun j hj => rfl) (by omega) hn1 (by omega)
  have hW : appl (o.toNat / 8) (fun j => wrote W o.toNat c k (o.toNat / 8 + j)) W (lineN o.toNat k) = wroteW W o.toNat k c := by
    unfold wroteW
    by_cases h0 : k = 0
    · subst h0
      rw [if_pos rfl]
      funext t
      show (if o.toNat / 8 ≤ t ∧ t < o.toNat / 8 + 0 then _ else W t) = W t
      rw [if_neg (by omega)]
    · rw [if_neg h0]
  rw [hW] at KA
  have KA := Lib.hid KA
  have HB := Lib.hid (And.intro hB (show 0 < L * 8 by omega))
  obtain ⟨aod, capd, rfl⟩ := hd.form
  clear hs hb he hd hc hh hbig hM hne hB h1 h2 h3 e1 e2 hn1 hW
  go_enter Tryz.func39, Tryz.ntmps39
  go_wp2_with fail
  refine KF.out.mono ?_
  rintro _ w1 ⟨v1, rfl, hl, hb1⟩
  have HL := Lib.hid hl
  have HB1 := Lib.hid hb1
  obtain ⟨ao1, cap1, rfl⟩ := hl.form
  replace ho := keep hb1 ho
  have hlt1 := lt_of_obj ho
  clear hl hb1 KF hlt
  go_wp2_with fail
  refine (KA.out _ _ HB1.out HL.out).mono ?_
  rintro _ w2 ⟨v2, rfl, hr2, hb2⟩
  have HR2 := Lib.hid (hr2.sl.mono HB1.out.size)
  have HB2 := Lib.hid (HB1.out.trans (hb2.mono HB1.out.size))
  obtain ⟨ao2, cap2, rfl⟩ := hr2.form
  replace ho := keep hb2 ho
  have hlt2 := lt_of_obj ho
  clear hr2 hb2 KA hlt1 HL HB1
  go_wp2_with fail
  go_ret
  refine ⟨_, rfl, HM.out.words HB.out.1 HB.out.2 HB2.out HR2.out, (Kept.of_below HB2.out).setCell _ (Or.inl (by simp))⟩
set_option maxRecDepth 100000 in
set_option maxHeartbeats 3200000 in
theorem rsetroot_any {b : Bs} {L : Nat} {o : Int} (h : MAt w B M (L * 8) W r) (hb : b.Ok (L * 8)) (he : Enc W b) (hr : RootOk b o) :
    Calls Tryz.prog 40 #[.pointer (some ⟨M, 0, none⟩), .int .i64 o] w fun e w' => ∃ v', e = .returned v' ∧ MAt w' B M (L * 8) W o ∧ Kept [M] w w' := by
  have hbig := hb.big
  have h0 : 0 < L * 8 := by omega
  have HM := Lib.hid h
  have hlt := h.lt
  have KB := Lib.hid (rmblocks_any h hb he)
  have ho : ∃ cs, obj w M = some (.cells cs 76 (0, 0)) ∧ cs.size = 2 := by
    obtain ⟨hM, g, off, cap, ho, hne, hs⟩ := h
    exact ⟨_, ho, rfl⟩
  rcases (by omega : o ≠ 0 ∨ o = 0) with hz | hz
  · obtain ⟨i, hi, hp⟩ := hr.resolve_left hz
    have KI := Lib.hid (fun w1 v1 (h1 : RowSl w1 w.heap.size v1 3 b.n (blkF b)) => ris_any (w := w1) h1 hb hi hp)
    have d1 : (o != 0) = true := by simpa using hz
    have d2 : ¬ (i : Int) < 0 := by omega
    clear h hb he hr hi hp hbig ho
    go_enter Tryz.func40, Tryz.ntmps40
    go_wp2_with fail
    refine KB.out.mono ?_
    rintro _ w1 ⟨v1, rfl, hl, hb1⟩
    have HL := Lib.hid hl
    have HB1 := Lib.hid hb1
    obtain ⟨ao1, cap1, rfl⟩ := hl.form
    clear hl hb1 KB
    go_wp2_with fail
    refine (KI.out _ _ HL.out).mono ?_
    rintro _ w2 ⟨rfl, hb2⟩
    have HB2 := Lib.hid (HB1.out.trans (hb2.mono HB1.out.size))
    have HM2 := Lib.hid (HM.out.below HB2.out)
    have ho2 : ∃ g off cap, obj w2 M = some (.cells #[.slice (some ⟨g, off, none⟩) (L * 8) cap, .int .i64 r] 76 (0, 0)) := by
      obtain ⟨hM, g, off, cap, ho, hne, hs⟩ := HM2.out
      exact ⟨_, _, _, ho⟩
    obtain ⟨g2, off2, cap2, ho2⟩ := ho2
    have hlt2 := lt_of_obj ho2
    clear hb2 KI HL HB1
    go_wp2_with fail
    go_ret
    exact ⟨_, rfl, HM2.out.root h0, (Kept.of_below HB2.out).setCell _ (Or.inl (by simp))⟩
  · subst hz
    obtain ⟨g2, off2, cap2, ho2⟩ : ∃ g off cap, obj w M = some (.cells #[.slice (some ⟨g, off, none⟩) (L * 8) cap, .int .i64 r] 76 (0, 0)) := by
      obtain ⟨hM, g, off, cap, ho, hne, hs⟩ := HM.out
      exact ⟨_, _, _, ho⟩
    clear h hb he hr hbig ho KB
    go_enter Tryz.func40, Tryz.ntmps40
    go_wp2_with fail
    go_ret
    exact ⟨_, rfl, HM.out.root h0, (Kept.refl _ _).setCell _ (Or.inl (by simp))⟩
end
end Go.Proofs.YtphmfaddgpjndaaGreat

/- The reference model's box: Clone, Alloc; blocks alike, answers alike. -/
namespace Go.Proofs.YtphmfaddgpjndaaGreat
open Go.ChangeShapes Go.WideShapes Go.RowKit Go.Maps

section
variable {w w' : World} {B M N : Nat} {W : Nat → Int} {r : Int}
set_option maxRecDepth 100000 in
set_option maxHeartbeats 3200000 in
theorem rclone_any (h : MAt w B M N W r) (h0 : 0 < N) (hN : N ≤ 512) : Calls Tryz.prog 36 #[.pointer (some ⟨M, 0, none⟩)] w fun e w' => ∃ M', e = .returned (.pointer (some ⟨M', 0, none⟩)) ∧ MAt w' w.heap.size M' N W r ∧ Below w.heap.size w w' := by
  obtain ⟨i0, hi0, hz0, hz1, hz2⟩ := info_parts' info25
  have hlt := h.lt
  obtain ⟨hM, g, off, cap, ho, hne, hs⟩ := h
  obtain ⟨g1, off1, cap1, e, _, _, _, hc⟩ := hs.cells h0
  obtain ⟨⟨rfl, rfl⟩, rfl⟩ : (g = g1 ∧ off = off1) ∧ cap = cap1 := by simpa using e
  have HNEW : ∀ j u, (flatF 1 (wordF W) N)[j]? = some u → (w.drew).cell? ((⟨g, off, none⟩ : Addr).add j) = some u := fun j u hu => by
    obtain ⟨hj, rfl⟩ := flat_words_get W N j hu
    rw [addr_add, cell?_heap]
    have := hc j hj 0 (by decide)
    rw [Nat.mul_one, Nat.add_zero] at this
    exact this
  have c0 : cellAt (obj w M) 0 = some (.slice (some ⟨g, off, none⟩) N cap) := by rw [ho]; rfl
  have c1 : cellAt (obj w M) 1 = some (.int .i64 r) := by rw [ho]; rfl
  have A4 : (flatF 1 (wordF W) N).length = N * 1 := by rw [flatF_len]
  have A8 : N ≤ maxLen := by unfold maxLen; omega
  have A9 : N * 8 ≤ 140737488355328 := by omega
  have nn : (Value.slice none 0 0).ownBlock ≠ some M := by simp [Value.ownBlock]
  have H0 := Lib.hid h0
  clear hM hne hs e hc ho h0 hN
  go_enter Tryz.func36, Tryz.ntmps36
  go_wp2_with fail
  go_region_held3 (fun w' => cellAt (obj w' M) 0 = some (.slice (some ⟨g, off, none⟩) N cap) ∧ cellAt (obj w' M) 1 = some (.int .i64 r))
    (first
      | exact ⟨c0, c1⟩
      | exact hS1
      | (rw [obj_alloc_past wA _ M gA1]; exact hS1))
    ((refine step_append_row w.drew (by rfl) (Operand.const (Value.slice none 0 0)) (Operand.tmp 6) 54 (by rfl) w.heap.size 25 i0 (Value.int .u64 0) 1 8 Tryz.underlying54 hi0 hz0 hz1 hz2 rfl (by decide) (Value.slice none 0 0) 0 [] (by rfl) (World.ownsRow_nil _ _ _ _) ⟨g, off, none⟩ N cap (flatF 1 (wordF W) N) (by rfl) A4 HNEW (flat_words_one W N) N (Nat.zero_add N) A8 A9 (Nat.le_refl _) w.heap.size (by rfl) ?_
      intro aoA capA wA hownA hgrowA hatA
      rw [List.nil_append] at hownA
      have gA1 : M < wA.heap.size := Nat.lt_of_lt_of_le hlt hgrowA.size
      have hS1 : cellAt (obj wA M) 0 = some (.slice (some ⟨g, off, none⟩) N cap) ∧ cellAt (obj wA M) 1 = some (.int .i64 r) := by rw [grow_obj hgrowA hlt nn]; exact ⟨c0, c1⟩))
  have hBA : Below w.heap.size w wA := ((Below.refl w.heap.size w).drew).grown hgrowA (Nat.le_refl _) (fun _ h => by cases h)
  have hra := own_row hownA (fun e => by have := H0.out; omega)
  obtain ⟨g2, off2, cap2, e2, _, _, hg2, hgl2, _⟩ := hra.cells H0.out
  obtain ⟨rfl, rfl⟩ : aoA = some ⟨g2, off2, none⟩ ∧ capA = cap2 := by simpa using e2
  have HR := Lib.hid hra.sl
  have HB := Lib.hid hBA
  have HG := Lib.hid hgl2
  clear hownA hgrowA hatA hBA hra e2 hg2 hgl2 gA1 hS1 HNEW A4 A8 A9 c0 c1 nn hlt
  go_wp2_with fail
  go_ret
  have hb2 := (Below.refl wA.heap.size wA).alloc (Nat.le_refl _) (.cells #[.slice (some ⟨g2, off2, none⟩) N capA, .int .i64 r] 76)
  exact ⟨_, rfl, ⟨HB.out.size, g2, off2, capA, newA _ _, by have := HG.out; omega, HR.out.below hb2⟩, HB.out.alloc HB.out.size _⟩
set_option maxRecDepth 100000 in
set_option maxHeartbeats 6400000 in
theorem ralloc_any {b : Bs} {L k : Nat} {n : Int} (h : MAt w B M (L * 8) W r) (hB : B ≤ w.heap.size) (hb : b.Ok (L * 8)) (he : Enc W b) (hn : needN n ≠ 0) (hk : k < b.n) (hf : fits b (needN n) k) (hl : ∀ j, j < b.n → fits b (needN n) j → b.sz k ≤ b.sz j) :
    Calls Tryz.prog 37 #[.pointer (some ⟨M, 0, none⟩), .int .i64 n, .int .i64 ((b.at k + 1) * 8 : Nat)] w fun e w' => ∃ v', e = .returned v' ∧ MAt w' B M (L * 8) (carW b W k (needN n)) r ∧ Kept [M] w w' := by
  have hbig := hb.big
  have hcn := hb.count
  have hnt := needN_two _ hn
  have KB := Lib.hid (rmblocks_any h hb he)
  have KN := Lib.hid (fun w => rneed_any n w)
  have HM := Lib.hid h
  obtain ⟨hM, g, off, cap, ho, hne, hs⟩ := h
  have h2 : 2 ≤ needN n ∧ needN n ≤ b.sz k := ⟨hnt.1, hf.2⟩
  have ht := takes_two h2
  have hle := hb.le hk
  have hcl : b.at k + carC (takesN (b.sz k) (needN n)) (takM (b.sz k) (takesN (b.sz k) (needN n))) ≤ L * 8 := by
    rw [carC_eq]; split <;> omega
  have KA := fun w1 vl (hb1 : Below w.heap.size w w1) (B2 : Nat) (hl : RowSl w1 B2 vl 2 (carC (takesN (b.sz k) (needN n)) (takM (b.sz k) (takesN (b.sz k) (needN n)))) (edF (carA (b.at k)) (carV (b.sz k) (takesN (b.sz k) (needN n))))) =>
    rapply_any (a0 := b.at k) (hs.below hb1) hl (fun j hj => rfl) (by omega) hcl (by omega)
  have KA := Lib.hid KA
  have KC := Lib.hid (fun w1 v1 (B2 : Nat) (h1 : RowSl w1 B2 v1 3 b.n (blkF b)) => rcedits_any (w := w1) h1 hb hk hf.1 h2)
  have KF := Lib.hid (fun w1 v1 (h1 : RowSl w1 w.heap.size v1 3 b.n (blkF b)) => rfits_any (w := w1) (need := needN n) h1 hb hnt.1 (by omega))
  have HK := Lib.hid (And.intro hk (And.intro hf hl))
  have HB := Lib.hid (And.intro hB (show 0 < L * 8 by omega))
  have HO := Lib.hid ho
  have HBO := Lib.hid hb
  obtain ⟨oo, hoo⟩ : ∃ x, (b.at k + 1) * 8 = x := ⟨_, rfl⟩
  rw [hoo]
  have HOO := Lib.hid hoo
  have HX := Lib.hid (And.intro hcn hbig)
  have hlt := lt_of_obj ho
  clear hs hb he hn hk hf hl hbig hcn hnt h2 ht hle hcl hM hne hB hoo ho
  go_enter Tryz.func37, Tryz.ntmps37
  go_wp2_with fail
  refine KB.out.mono ?_
  rintro _ w1 ⟨v1, rfl, hr, hb1⟩
  have HR := Lib.hid hr
  have HB1 := Lib.hid hb1
  obtain ⟨ao1, cap1, rfl⟩ := hr.form
  clear hr hb1 KB
  go_wp2_with fail
  refine (KN.out _).mono ?_
  rintro _ _ ⟨rfl, rfl⟩
  go_wp2_with fail
  refine (KF.out _ _ HR.out).mono ?_
  rintro _ w2 ⟨v2, m, f, rfl, hr2, hfj, hb2⟩
  have hkk := HK.out
  obtain ⟨t0, ht0, hft0⟩ := hfj.all k hkk.1 hkk.2.1 hkk.2.2
  obtain ⟨g1, off1, cap1', e1, _, _, _, hg1, hrow1, hcell1⟩ := blk_row HR.out (by omega)
  obtain ⟨rfl, rfl⟩ : ao1 = some ⟨g1, off1, none⟩ ∧ cap1 = cap1' := by simpa using e1
  obtain ⟨g2, off2, cap2, rfl, _, _, _, hg2, _, hc2⟩ := hr2.cells (by omega)
  have HROW1 := Lib.hid hrow1
  have HG1 := Lib.hid (And.intro hg1 hb2.size)
  have HC2 := Lib.hid hc2
  have HFJ := Lib.hid hfj
  have HT0 := Lib.hid (And.intro ht0 hft0)
  have HR2 := Lib.hid (HR.out.below hb2)
  have HB2 := Lib.hid (HB1.out.trans (hb2.mono HB1.out.size))
  have HB12 := Lib.hid hb2
  have HM2 : Hid (m ≤ 256) := Lib.hid (by have := hfj.le; have := HX.out; omega)
  clear hkk hr2 hfj ht0 hft0 e1 hg1 hrow1 hcell1 hg2 hc2 hb2 KF HB1 HR
  go_wp2_with fail
  go_loopw [17] (fun ix wr => ∃ t : Nat, t ≤ t0 ∧ ix = .int .i64 t ∧ Below w2.heap.size w2 wr) (fun ix _ => t0 + 1 - (intOf ix).toNat)
  case atStart => exact ⟨0, Nat.zero_le _, rfl, Below.refl _ _⟩
  case round =>
    obtain ⟨t, ht, rfl, hbr⟩ := hrel
    have HBR := Lib.hid hbr
    have hT0 := HT0.out
    have hM2 := HM2.out
    have hX := HX.out
    have hltz : (t : Int) < (m : Int) := by omega
    have t00 : (0 : Int) ≤ (t : Int) := Int.natCast_nonneg t
    have wt : IntKind.i64.wrap ((t : Int) + 1) = (t : Int) + 1 := by rw [IntKind.wrap_i64]; omega
    have hft := (HFJ.out.good t (by omega)).1
    have c2 := (below_kept hbr).cell (HC2.out t (by omega) 0 (by decide)) (by simp)
    rw [Nat.mul_one, Nat.add_zero] at c2
    obtain ⟨x, hx⟩ : ∃ x, f t = x := ⟨_, rfl⟩
    replace c2 : cellAt (obj wr g2) (off2 + t) = some (.int .i64 (x : Int)) := by rw [← hx]; exact c2
    rw [hx] at hft
    have x0 : (0 : Int) ≤ (x : Int) := Int.natCast_nonneg x
    have x1 : (x : Int) < (b.n : Int) := by omega
    have hr := HROW1.out x hft
    have hbr2 : Below w1.heap.size w1 wr := HB12.out.trans (hbr.mono HB12.out.size)
    rw [← obj_below hbr2 HG1.out.1] at hr
    have hg1w : g1 < wr.heap.size := by have := hbr.size; have := HG1.out; omega
    have hlx := HBO.out.lt hft
    have KO := Lib.hid (fun w => roff_any (b.at x) (b.sz x) (b.us x) (by omega) w)
    have hne : x ≠ k → b.at x ≠ b.at k := fun hh e => by
      have h1 := HBO.out.size hft
      have h2 := HBO.out.size HK.out.1
      rcases Nat.lt_or_ge x k with h3 | h3
      · have := b.at_mono (show x + 1 ≤ k by omega); rw [b.at_succ] at this; omega
      · have := b.at_mono (show k + 1 ≤ x by omega); rw [b.at_succ] at this; omega
    have hlw := lt_of_cell c2
    have hoo := HOO.out
    have HT := Lib.hid ht
    by_cases hxk : x = k
    · subst hxk
      generalize b.at x = z at hr KO hoo
      generalize b.sz x = sz at hr KO
      generalize b.us x = u at hr KO
      rw [hoo] at KO
      have ho := keep (HB2.out.trans (hbr.mono HB2.out.size)) HO.out
      have hlo := lt_of_obj ho
      have HBW : Hid (Below w.heap.size w wr) := Lib.hid (HB2.out.trans (hbr.mono HB2.out.size))
      have HRW := Lib.hid (HR2.out.below hbr)
      clear ht hT0 hM2 hX hft hx hlx hne hoo hbr hbr2
      go_wp2_with fail
      refine (KO.out _).mono ?_
      rintro _ w3 ⟨rfl, hb3⟩
      have HB3 := Lib.hid (HBW.out.trans (hb3.mono HBW.out.size))
      have HR3 := Lib.hid (HRW.out.below hb3)
      replace ho := keep hb3 ho
      replace hlo := lt_of_obj ho
      have HO3 := Lib.hid ho
      clear hb3 HBW HRW
      go_wp2_with fail
      go_region_with (first
        | (go_at_call 66; refine (KN.out _).mono ?_; rintro _ _ ⟨rfl, rfl⟩)
        | (go_at_call 68; refine (KC.out w3.drew _ _ (HR3.out.below ((Below.refl _ _).drew))).mono ?_; rintro _ wc ⟨vc, rfl, hrc, hbc⟩; have hoc := keep (w := w3.drew) hbc HO3.out; have hlc := lt_of_obj hoc)
        | (go_at_call 67; refine (KA.out _ _ (HB3.out.drew.trans (hbc.mono HB3.out.size)) _ hrc).mono ?_; rintro _ wa ⟨va, rfl, hra, hba⟩; obtain ⟨aoa, capa, rfl⟩ := hra.form; have hoa := keep hba hoc; have hla := lt_of_obj hoa))
      all_goals
        have HBA := Lib.hid ((HB3.out.drew.trans (hbc.mono HB3.out.size)).trans (hba.mono (HB3.out.drew.trans (hbc.mono HB3.out.size)).size))
        have HSA := Lib.hid (hra.sl.mono (HB3.out.drew.trans (hbc.mono HB3.out.size)).size)
        clear hrc hbc hra hba hoc hlc
        go_wp2_with fail
        go_ret
        exact ⟨_, rfl, HM.out.words HB.out.1 HB.out.2 HBA.out HSA.out, (Kept.of_below HBA.out).setCell _ (Or.inl (by simp))⟩
    · have hd : (((b.at x + 1) * 8 : Nat) == oo) = false := by have := hne hxk; simp; omega
      have htl : t < t0 := by
        rcases Nat.lt_or_ge t t0 with h1 | h1
        · exact h1
        · obtain rfl : t = t0 := by omega
          exact absurd (hx.symm.trans hT0.2) hxk
      have HTL := Lib.hid htl
      generalize b.at x = z at hr KO hd
      generalize b.sz x = sz at hr KO
      generalize b.us x = u at hr KO
      obtain ⟨o2, ho2⟩ : ∃ y, (z + 1) * 8 = y := ⟨_, rfl⟩
      rw [ho2] at KO hd
      have hd2 : ((o2 : Int) == (oo : Int)) = false := by
        have h1 : ¬ o2 = oo := by simpa using hd
        simp
        omega
      clear ht hT0 hM2 hX hft hx hlx hne hoo hbr hbr2 htl hd ho2
      go_wp2_with fail
      refine (KO.out _).mono ?_
      rintro _ w3 ⟨rfl, hb3⟩
      have HB3 := Lib.hid (HBR.out.trans (hb3.mono HBR.out.size))
      clear hb3
      go_wp2_with fail
      exact ⟨⟨t + 1, HTL.out, by simp, HB3.out⟩, by have := HTL.out; simp only [intOf]; omega⟩
set_option maxRecDepth 100000 in
set_option maxHeartbeats 3200000 in
theorem rsame_any {b : Bs} {n B1 B2 : Nat} {v1 v2 : Value} (h1 : RowSl w B1 v1 3 n (blkF b)) (h2 : RowSl w B2 v2 3 n (blkF b)) (hn : 0 < n ∧ n ≤ 1000) :
    Calls Tryz.prog 41 #[v1, v2] w fun e w' => e = .returned (.bool true) ∧ Below w.heap.size w w' := by
  obtain ⟨g1, off1, cap1, rfl, _, _, _, hg1, hrow1, _⟩ := blk_row h1 hn.1
  obtain ⟨g2, off2, cap2, rfl, _, _, _, hg2, hrow2, _⟩ := blk_row h2 hn.1
  have HR1 := Lib.hid hrow1
  have HR2 := Lib.hid hrow2
  have HG := Lib.hid (And.intro hg1 hg2)
  have HN := Lib.hid hn
  clear h1 h2 hg1 hg2 hrow1 hrow2 hn
  go_enter Tryz.func41, Tryz.ntmps41
  go_wp2_with fail
  go_loopw [13] (fun ix wr => ∃ j : Nat, j ≤ n ∧ ix = .int .i64 j ∧ Below w.heap.size w wr) (fun ix _ => n + 1 - (intOf ix).toNat)
  case atStart => exact ⟨0, Nat.zero_le _, rfl, Below.refl _ _⟩
  case round =>
    obtain ⟨j, hj, rfl, hbr⟩ := hrel
    have HBR := Lib.hid hbr
    have hN := HN.out
    by_cases hlt : j < n
    · have hltz : (j : Int) < (n : Int) := by omega
      have j0 : (0 : Int) ≤ (j : Int) := Int.natCast_nonneg j
      have wj : IntKind.i64.wrap ((j : Int) + 1) = (j : Int) + 1 := by rw [IntKind.wrap_i64]; omega
      have r1 := HR1.out j hlt
      have r2 := HR2.out j hlt
      rw [← obj_below hbr HG.out.1] at r1
      rw [← obj_below hbr HG.out.2] at r2
      have l1 : g1 < wr.heap.size := by have := hbr.size; have := HG.out; omega
      have l2 : g2 < wr.heap.size := by have := hbr.size; have := HG.out; omega
      generalize b.at j = z at r1 r2
      generalize b.sz j = s at r1 r2
      generalize b.us j = u at r1 r2
      have HJ := Lib.hid hlt
      clear hj hbr hN hlt
      go_wp2_with fail
      go_quiet (fail)
      go_wp2_with fail
      exact ⟨⟨j + 1, HJ.out, by simp, Below.drawn' HBR.out _⟩, by have := HJ.out; simp only [intOf]; omega⟩
    · obtain rfl : j = n := by omega
      have hltz : ¬ (j : Int) < (j : Int) := by omega
      clear hj hbr hN hlt
      go_wp2
      go_ret
      exact ⟨rfl, HBR.out⟩
/-- the string of some bytes -/
def strN (c : Nat → Int) (n : Nat) : ByteArray := strOfNums ((List.range n).map c)
theorem conv_bytes {B n : Nat} {v : Value} {c : Nat → Int} (h : SlOf w B v 1 n (fun i _ => .int .u8 (c i))) : (convert 30 9 v).run Tryz.prog w = .ok (.string (strN c n)) w := by
  rcases h with ⟨ao, cap, rfl, rfl⟩ | ⟨g, off, cap, rfl, h0, h1, h2, _, hc⟩
  · cases ao with
    | none => exact run_convert_bytes_nil (P := Tryz.prog) w 30 5 Tryz.underlying30 Tryz.underlying5 0 cap 9 Tryz.underlying9
    | some a =>
      rw [run_convert_bytes_string w 30 9 5 (some a) 0 cap Tryz.underlying30 Tryz.underlying5 Tryz.underlying9, run_bytesToString w a 0 cap [] (by simp [loadCells, loadCellsFrom])]
      rfl
  · refine run_convert_bytes_arg (P := Tryz.prog) w 30 5 Tryz.underlying30 Tryz.underlying5 g off n cap _ (by simp) (fun i hi => ?_) 9 Tryz.underlying9
    have := hc i hi 0 (by decide)
    rw [Nat.mul_one, Nat.add_zero] at this
    rw [cell?_heap]
    simp only [List.getD_eq_getElem?_getD, List.getElem?_map, List.getElem?_range hi, Option.map_some, Option.getD_some]
    exact this
theorem strN_congr {c c' : Nat → Int} {n : Nat} (h : ∀ i, i < n → c i = c' i) : strN c n = strN c' n := by
  unfold strN
  congr 1
  exact List.map_congr_left fun i hi => h i (List.mem_range.1 hi)
set_option maxRecDepth 100000 in
set_option maxHeartbeats 3200000 in
theorem rsameans_any {r : Int} {ao1 ao2 : Option Addr} {c1 c2 : Nat} : Calls Tryz.prog 42 #[ansV 0 r (.slice ao1 0 c1), ansV 0 r (.slice ao2 0 c2)] w fun e w' => e = .returned (.bool true) ∧ Below w.heap.size w w' := by
  have hq1 := newA w (.cells #[.int .i64 0, .int .i64 r, .slice ao1 0 c1] 32)
  have hb1 := (Below.refl w.heap.size w).alloc (Nat.le_refl _) (.cells #[.int .i64 0, .int .i64 r, .slice ao1 0 c1] 32)
  have hq2 := newA (w.alloc (.cells #[.int .i64 0, .int .i64 r, .slice ao1 0 c1] 32)) (.cells #[.int .i64 0, .int .i64 r, .slice ao2 0 c2] 32)
  have hq1' := keepA (.cells #[.int .i64 0, .int .i64 r, .slice ao2 0 c2] 32) hq1
  have hb2 := hb1.alloc hb1.size (.cells #[.int .i64 0, .int .i64 r, .slice ao2 0 c2] 32)
  have hsz : (w.alloc (.cells #[.int .i64 0, .int .i64 r, .slice ao1 0 c1] 32)).heap.size = w.heap.size + 1 := by simp
  rw [hsz] at hq2
  have KV1 : ∀ w : World, (convert 30 9 (.slice ao1 0 c1)).run Tryz.prog w = .ok (.string (strN (fun _ => 0) 0)) w := fun w => conv_bytes (w := w) (B := 0) (Or.inl ⟨ao1, c1, rfl, rfl⟩)
  have KV2 : ∀ w : World, (convert 30 9 (.slice ao2 0 c2)).run Tryz.prog w = .ok (.string (strN (fun _ => 0) 0)) w := fun w => conv_bytes (w := w) (B := 0) (Or.inl ⟨ao2, c2, rfl, rfl⟩)
  have HB := Lib.hid hb2
  unfold ansV
  generalize strN (fun _ => 0) 0 = S at KV1 KV2
  clear hq1 hb1 hb2
  go_enter Tryz.func42, Tryz.ntmps42
  go_wp2_with fail
  go_ret
  exact ⟨rfl, HB.out⟩
end
end Go.Proofs.YtphmfaddgpjndaaGreat

/- next: the model behind an operation that took effect. (Printed by wip/genBL.py.) -/
namespace Go.Proofs.YtphmfaddgpjndaaGreat
open Go.ChangeShapes Go.WideShapes Go.RowKit Go.Maps

set_option maxRecDepth 100000 in
set_option maxHeartbeats 6400000 in
theorem rnext_any {w : World} {Bm M L : Nat} {W W' : Nat → Int} {r r' : Int} {b b' : Bs} {op : OpN} {err o : Int} {n : Nat} {c : Nat → Int} {B2 : Nat} {d : Value} (h : MAt w Bm M (L * 8) W r) (hs : St (L * 8) b W r) (hd : Did b W r op err o W' r' n c b') (he : err = 0)
    (hda : SlOf w B2 d 1 op.k (fun i _ => .int .u8 (op.c i))) (hc : ∀ i, i < op.k → 0 ≤ op.c i ∧ op.c i < 256) :
    Calls Tryz.prog 16 #[.pointer (some ⟨M, 0, none⟩), opV op.kind op.off op.n op.mask d, .int .i64 o] w fun e w' => ∃ M', e = .returned (.pointer (some ⟨M', 0, none⟩)) ∧ MAt w' w.heap.size M' (L * 8) W' r' ∧ Below w.heap.size w w' := by
  have hb := hs.hB
  have hen := hs.he
  have hbig := hb.big
  have h0 : 0 < L * 8 := by omega
  have hq := newA w (.cells #[.int .i64 op.kind, .int .i64 op.off, .int .i64 op.n, .int .i64 op.mask, d] 35)
  have hb0 := (Below.refl w.heap.size w).alloc (Nat.le_refl _) (.cells #[.int .i64 op.kind, .int .i64 op.off, .int .i64 op.n, .int .i64 op.mask, d] 35)
  have KC := Lib.hid (rclone_any (h.below hb0) h0 (by omega))
  have HDA := Lib.hid (hda.below hb0)
  have HB0 := Lib.hid hb0
  obtain ⟨aod, capd, rfl⟩ := hda.form
  have hsz : w.heap.size < (w.alloc (.cells #[.int .i64 op.kind, .int .i64 op.off, .int .i64 op.n, .int .i64 op.mask, .slice aod op.k capd] 35)).heap.size := by simp
  unfold opV
  cases hd
  case allocOk k hk1 hn hk hf hl =>
    rw [hk1] at hq hb0 KC HDA HB0 hsz ⊢
    go_enter Tryz.func16, Tryz.ntmps16
    go_wp2_with fail
    generalize w.alloc (.cells #[.int .i64 1, .int .i64 op.off, .int .i64 op.n, .int .i64 op.mask, .slice aod op.k capd] 35) = w0 at KC HDA HB0 hq hsz ⊢
    obtain ⟨q0, hq0⟩ : ∃ x, w.heap.size = x := ⟨_, rfl⟩
    have HQ0 := Lib.hid hq0
    rw [hq0] at hq hsz ⊢
    clear hq0
    refine KC.out.mono ?_
    rintro _ w1 ⟨M1, rfl, hm1, hb1⟩
    replace hq := keep hb1 hq
    replace hsz := lt_of_obj hq
    have HB1 := Lib.hid (HB0.out.trans (hb1.mono HB0.out.size))
    have HDA1 := Lib.hid (HDA.out.below hb1)
    have HS01 : Hid (w.heap.size ≤ w0.heap.size) := Lib.hid HB0.out.size
    have HMB : Hid (w.heap.size ≤ M1) := Lib.hid (Nat.le_trans HS01.out hm1.1)
    have KX := Lib.hid (ralloc_any hm1 hb1.size hb hen hn hk hf hl)
    clear hm1 hb1 KC
    go_wp2_with fail
    refine KX.out.mono ?_
    rintro _ w2 ⟨v2, rfl, hm2, hk2⟩
    have HM2 := Lib.hid hm2
    have HB2 := Lib.hid (below_list HB1.out hk2 (fun x hx => by simp at hx; have := HMB.out; omega))
    clear hm2 hk2 KX
    go_wp2_with fail
    go_ret
    exact ⟨M1, rfl, HM2.out.mono HS01.out, HB2.out⟩
  case freeOk i hk1 hi hp hr =>
    rw [hk1] at hq hb0 KC HDA HB0 hsz ⊢
    go_enter Tryz.func16, Tryz.ntmps16
    go_wp2_with fail
    generalize w.alloc (.cells #[.int .i64 2, .int .i64 op.off, .int .i64 op.n, .int .i64 op.mask, .slice aod op.k capd] 35) = w0 at KC HDA HB0 hq hsz ⊢
    obtain ⟨q0, hq0⟩ : ∃ x, w.heap.size = x := ⟨_, rfl⟩
    have HQ0 := Lib.hid hq0
    rw [hq0] at hq hsz ⊢
    clear hq0
    refine KC.out.mono ?_
    rintro _ w1 ⟨M1, rfl, hm1, hb1⟩
    replace hq := keep hb1 hq
    replace hsz := lt_of_obj hq
    have HB1 := Lib.hid (HB0.out.trans (hb1.mono HB0.out.size))
    have HDA1 := Lib.hid (HDA.out.below hb1)
    have HS01 : Hid (w.heap.size ≤ w0.heap.size) := Lib.hid HB0.out.size
    have HMB : Hid (w.heap.size ≤ M1) := Lib.hid (Nat.le_trans HS01.out hm1.1)
    have KX := Lib.hid (rfree_any hm1 hb1.size hb hen hi hp hr)
    clear hm1 hb1 KC
    go_wp2_with fail
    refine KX.out.mono ?_
    rintro _ w2 ⟨v2, rfl, hm2, hk2⟩
    have HM2 := Lib.hid hm2
    have HB2 := Lib.hid (below_list HB1.out hk2 (fun x hx => by simp at hx; have := HMB.out; omega))
    clear hm2 hk2 KX
    go_wp2_with fail
    go_ret
    exact ⟨M1, rfl, HM2.out.mono HS01.out, HB2.out⟩
  case readOk hk1 hh =>
    rw [hk1] at hq hb0 KC HDA HB0 hsz ⊢
    go_enter Tryz.func16, Tryz.ntmps16
    go_wp2_with fail
    generalize w.alloc (.cells #[.int .i64 3, .int .i64 op.off, .int .i64 op.n, .int .i64 op.mask, .slice aod op.k capd] 35) = w0 at KC HDA HB0 hq hsz ⊢
    obtain ⟨q0, hq0⟩ : ∃ x, w.heap.size = x := ⟨_, rfl⟩
    have HQ0 := Lib.hid hq0
    rw [hq0] at hq hsz ⊢
    clear hq0
    refine KC.out.mono ?_
    rintro _ w1 ⟨M1, rfl, hm1, hb1⟩
    replace hq := keep hb1 hq
    replace hsz := lt_of_obj hq
    have HB1 := Lib.hid (HB0.out.trans (hb1.mono HB0.out.size))
    have HDA1 := Lib.hid (HDA.out.below hb1)
    have HS01 : Hid (w.heap.size ≤ w0.heap.size) := Lib.hid HB0.out.size
    have HM1 := Lib.hid hm1
    clear hm1 hb1 KC
    go_wp2_with fail
    go_ret
    exact ⟨M1, rfl, HM1.out.mono HS01.out, HB1.out⟩
  case writeOk hk1 hh =>
    rw [hk1] at hq hb0 KC HDA HB0 hsz ⊢
    go_enter Tryz.func16, Tryz.ntmps16
    go_wp2_with fail
    generalize w.alloc (.cells #[.int .i64 4, .int .i64 op.off, .int .i64 op.n, .int .i64 op.mask, .slice aod op.k capd] 35) = w0 at KC HDA HB0 hq hsz ⊢
    obtain ⟨q0, hq0⟩ : ∃ x, w.heap.size = x := ⟨_, rfl⟩
    have HQ0 := Lib.hid hq0
    rw [hq0] at hq hsz ⊢
    clear hq0
    refine KC.out.mono ?_
    rintro _ w1 ⟨M1, rfl, hm1, hb1⟩
    replace hq := keep hb1 hq
    replace hsz := lt_of_obj hq
    have HB1 := Lib.hid (HB0.out.trans (hb1.mono HB0.out.size))
    have HDA1 := Lib.hid (HDA.out.below hb1)
    have HS01 : Hid (w.heap.size ≤ w0.heap.size) := Lib.hid HB0.out.size
    have HMB : Hid (w.heap.size ≤ M1) := Lib.hid (Nat.le_trans HS01.out hm1.1)
    have KX := Lib.hid (rwrite_any hm1 hb1.size hb hen HDA1.out hc hh)
    clear hm1 hb1 KC
    go_wp2_with fail
    refine KX.out.mono ?_
    rintro _ w2 ⟨v2, rfl, hm2, hk2⟩
    have HM2 := Lib.hid hm2
    have HB2 := Lib.hid (below_list HB1.out hk2 (fun x hx => by simp at hx; have := HMB.out; omega))
    clear hm2 hk2 KX
    go_wp2_with fail
    go_ret
    exact ⟨M1, rfl, HM2.out.mono HS01.out, HB2.out⟩
  case rootOk hk1 hr =>
    rw [hk1] at hq hb0 KC HDA HB0 hsz ⊢
    go_enter Tryz.func16, Tryz.ntmps16
    go_wp2_with fail
    generalize w.alloc (.cells #[.int .i64 5, .int .i64 op.off, .int .i64 op.n, .int .i64 op.mask, .slice aod op.k capd] 35) = w0 at KC HDA HB0 hq hsz ⊢
    obtain ⟨q0, hq0⟩ : ∃ x, w.heap.size = x := ⟨_, rfl⟩
    have HQ0 := Lib.hid hq0
    rw [hq0] at hq hsz ⊢
    clear hq0
    refine KC.out.mono ?_
    rintro _ w1 ⟨M1, rfl, hm1, hb1⟩
    replace hq := keep hb1 hq
    replace hsz := lt_of_obj hq
    have HB1 := Lib.hid (HB0.out.trans (hb1.mono HB0.out.size))
    have HDA1 := Lib.hid (HDA.out.below hb1)
    have HS01 : Hid (w.heap.size ≤ w0.heap.size) := Lib.hid HB0.out.size
    have HMB : Hid (w.heap.size ≤ M1) := Lib.hid (Nat.le_trans HS01.out hm1.1)
    have KX := Lib.hid (rsetroot_any hm1 hb hen hr)
    clear hm1 hb1 KC
    go_wp2_with fail
    refine KX.out.mono ?_
    rintro _ w2 ⟨v2, rfl, hm2, hk2⟩
    have HM2 := Lib.hid hm2
    have HB2 := Lib.hid (below_list HB1.out hk2 (fun x hx => by simp at hx; have := HMB.out; omega))
    clear hm2 hk2 KX
    go_wp2_with fail
    go_ret
    exact ⟨M1, rfl, HM2.out.mono HS01.out, HB2.out⟩
  case get hk1 =>
    rw [hk1] at hq hb0 KC HDA HB0 hsz ⊢
    go_enter Tryz.func16, Tryz.ntmps16
    go_wp2_with fail
    generalize w.alloc (.cells #[.int .i64 6, .int .i64 op.off, .int .i64 op.n, .int .i64 op.mask, .slice aod op.k capd] 35) = w0 at KC HDA HB0 hq hsz ⊢
    obtain ⟨q0, hq0⟩ : ∃ x, w.heap.size = x := ⟨_, rfl⟩
    have HQ0 := Lib.hid hq0
    rw [hq0] at hq hsz ⊢
    clear hq0
    refine KC.out.mono ?_
    rintro _ w1 ⟨M1, rfl, hm1, hb1⟩
    replace hq := keep hb1 hq
    replace hsz := lt_of_obj hq
    have HB1 := Lib.hid (HB0.out.trans (hb1.mono HB0.out.size))
    have HDA1 := Lib.hid (HDA.out.below hb1)
    have HS01 : Hid (w.heap.size ≤ w0.heap.size) := Lib.hid HB0.out.size
    have HM1 := Lib.hid hm1
    clear hm1 hb1 KC
    go_wp2_with fail
    go_ret
    exact ⟨M1, rfl, HM1.out.mono HS01.out, HB1.out⟩
  all_goals (exact absurd he (by decide))
end Go.Proofs.YtphmfaddgpjndaaGreat

/- The heap as one; Says. -/
namespace Go.Proofs.YtphmfaddgpjndaaGreat
open Go.ChangeShapes Go.WideShapes Go.RowKit Go.Maps

/-- a heap -/
def Hp (w : World) (b : HB) (p : Pl) (B : Bs) (W : Nat → Int) (r : Int) (X Y : Nat) : Prop :=
  ∃ puts m now kept, HeapIn w b p puts m now kept X Y ∧ W = hW m p.L ∧ r = m.reg 2 ∧ St (p.L * 8) B W r
section
variable {w w' : World} {b : HB} {p : Pl} {B : Bs} {W : Nat → Int} {r : Int} {X Y : Nat}
theorem Tw.toHp {TW : Nat} {now : Nat → Int} (h : Tw w TW b p now B W r X Y) : Hp w b p B W r X Y := by
  obtain ⟨puts, m, kept, cost, h1, h2, h3, h4, h5, h6⟩ := h
  exact ⟨puts, m, now, kept, h2, h4, h5, h6⟩
theorem Hp.below (h : Hp w b p B W r X Y) (q : Below w.heap.size w w') : Hp w' b p B W r X Y := by
  obtain ⟨puts, m, now, kept, h2, h4, h5, h6⟩ := h
  exact ⟨puts, m, now, kept, h2.below q, h4, h5, h6⟩
theorem Hp.mono {X' Y' : Nat} (h : Hp w b p B W r X Y) (hX : X ≤ X') (hY : Y ≤ Y') : Hp w b p B W r X' Y' := by
  obtain ⟨puts, m, now, kept, h2, h4, h5, h6⟩ := h
  exact ⟨puts, m, now, kept, h2.mono hX hY, h4, h5, h6⟩
theorem Hp.st (h : Hp w b p B W r X Y) : St (p.L * 8) B W r := by
  obtain ⟨puts, m, now, kept, h2, h4, h5, h6⟩ := h
  exact h6
theorem Hp.lts (h : Hp w b p B W r X Y) : ∀ x ∈ [b.Mb, b.Cb, b.TU, b.g1, b.g2], x < w.heap.size := by
  obtain ⟨puts, m, now, kept, h2, h4, h5, h6⟩ := h
  intro x hx
  exact h2.lts x (by simp at hx ⊢; omega)
theorem hp_words (h : Hp w b p B W r X Y) : Calls Tryz.prog 19 #[.pointer (some ⟨b.HP, 0, none⟩)] w fun e w' => ∃ v', e = .returned (.tuple #[v', .int .i64 0]) ∧ SlOf w' w.heap.size v' 1 (p.L * 8) (wordF W) ∧ Below w.heap.size w w' := by
  obtain ⟨puts, m, now, kept, h2, rfl, rfl, h6⟩ := h
  exact hwords_any h2.hH h2.hp h2.hG h2.gd h2.r1
theorem hp_do (h : Hp w b p B W r X Y) (hX : X + 9 ≤ 1000000000000) (hY : Y + 200 ≤ 1000000000000) (op : OpN) {B2 : Nat} {d : Value} (hd : SlOf w B2 d 1 op.k (fun i _ => .int .u8 (op.c i))) (hc : ∀ i, i < op.k → 0 ≤ op.c i ∧ op.c i < 256) :
    Calls Tryz.prog 43 #[.pointer (some ⟨b.HP, 0, none⟩), opV op.kind op.off op.n op.mask d] w fun e w' => ∃ (err o : Int) (v : Value) (W' W2 : Nat → Int) (r' : Int) (n : Nat) (c : Nat → Int) (B' : Bs), e = .returned (ansV err o v) ∧
      Hp w' b p B' W2 r' (X + 9) (Y + 200) ∧ (∀ t, t < p.L * 8 → W2 t = W' t) ∧ SlOf w' w.heap.size v 1 n (fun i _ => .int .u8 (c i)) ∧ Did B W r op err o W' r' n c B' ∧ Kept [b.Mb, b.Cb, b.TU, b.g1, b.g2] w w' := by
  obtain ⟨puts, m, now, kept, h2, rfl, rfl, h6⟩ := h
  refine (do_any h2 hX hY h6 op hd hc).mono ?_
  rintro _ w' ⟨err, o, v, W', r', n, c, B', rfl, hg, hsl, hdid⟩
  obtain ⟨puts', m', now', kept', hh', hW', hr', hle, hk⟩ := hg
  exact ⟨err, o, v, W', hW m' p.L, r', n, c, B', rfl, ⟨puts', m', now', kept', hh', rfl, hr'.symm, (Did.st h6 hdid).congr hW'⟩, hW', hsl, hdid, hk⟩
theorem Did.getOk {B B' : Bs} {W W' : Nat → Int} {r r' : Int} {op : OpN} {err o : Int} {n : Nat} {c : Nat → Int} (h : Did B W r op err o W' r' n c B') (hk : op.kind = 6) : err = 0 ∧ o = r ∧ n = 0 ∧ W' = W ∧ r' = r ∧ B' = B := by
  cases h
  case get => exact ⟨rfl, rfl, rfl, rfl, rfl, rfl⟩
  all_goals (exfalso; omega)
theorem hp_get (h : Hp w b p B W r X Y) (hX : X + 9 ≤ 1000000000000) (hY : Y + 200 ≤ 1000000000000) :
    Calls Tryz.prog 43 #[.pointer (some ⟨b.HP, 0, none⟩), .agg #[.int .i64 6, .int .i64 0, .int .i64 0, .int .i64 0, .slice none 0 0]] w fun e w' => ∃ ao cap W2, e = .returned (.agg #[.int .i64 0, .int .i64 r, .slice ao 0 cap]) ∧
      Hp w' b p B W2 r (X + 9) (Y + 200) ∧ (∀ t, t < p.L * 8 → W2 t = W t) ∧ Kept [b.Mb, b.Cb, b.TU, b.g1, b.g2] w w' := by
  refine (hp_do h hX hY ⟨6, 0, 0, 0, 0, fun _ => 0⟩ (sl_nil _ 0 _) (fun i hi => absurd hi (Nat.not_lt_zero _))).mono ?_
  rintro _ w' ⟨err, o, v, W', W2, r', n, c, B', rfl, hh, hw, hs, hd, hk⟩
  obtain ⟨rfl, rfl, rfl, rfl, rfl, rfl⟩ := hd.getOk rfl
  obtain ⟨ao, cap, rfl⟩ := hs.form
  exact ⟨ao, cap, W2, rfl, hh, hw, hk⟩
theorem hp_read (h : Hp w b p B W r X Y) (hX : X + 9 ≤ 1000000000000) (hY : Y + 200 ≤ 1000000000000) {o n : Int} (hh : holdsN B o n = true) :
    Calls Tryz.prog 43 #[.pointer (some ⟨b.HP, 0, none⟩), .agg #[.int .i64 3, .int .i64 o, .int .i64 n, .int .i64 0, .slice none 0 0]] w fun e w' => ∃ ao cap W2, e = .returned (.agg #[.int .i64 0, .int .i64 0, .slice ao n.toNat cap]) ∧
      Hp w' b p B W2 r (X + 9) (Y + 200) ∧ (∀ t, t < p.L * 8 → W2 t = W t) ∧ SlOf w' w.heap.size (.slice ao n.toNat cap) 1 n.toNat (fun i _ => .int .u8 (byteW W (o.toNat + i))) ∧ Kept [b.Mb, b.Cb, b.TU, b.g1, b.g2] w w' := by
  refine (hp_do h hX hY ⟨3, o, n, 0, 0, fun _ => 0⟩ (sl_nil _ 0 _) (fun i hi => absurd hi (Nat.not_lt_zero _))).mono ?_
  rintro _ w' ⟨err, o', v, W', W2, r', n', c, B', rfl, hh2, hw, hs, hd, hk⟩
  obtain ⟨rfl, rfl, rfl, rfl, rfl, rfl, rfl⟩ := hd.readOk' rfl hh
  obtain ⟨ao, cap, rfl⟩ := hs.form
  exact ⟨ao, cap, W2, rfl, hh2, hw, hs, hk⟩
theorem MAt.cell {Bm M N : Nat} (h : MAt w Bm M N W r) : cellAt (obj w M) 1 = some (.int .i64 r) := by
  obtain ⟨hM, g, off, cap, ho, hne, hs⟩ := h
  rw [ho]; rfl
theorem holds_whole {B : Bs} {N j : Nat} (hB : B.Ok N) (hj : j < B.n) (hu : B.us j = true) {n : Nat} (h1 : n ≤ 448) (h2 : n ≤ (B.sz j - 1) * 8) : holdsN B ((B.at j + 1) * 8 : Nat) n = true := by
  have h3 := hB.size hj
  exact (holdsN_iff hB).2 ⟨by omega, j, hj, hu, by omega, by omega⟩
set_option maxRecDepth 100000 in
set_option maxHeartbeats 12800000 in
theorem rsays_any {Bm M : Nat} (h : Hp w b p B W r X Y) (hX : X + 3000 ≤ 1000000000000) (hY : Y + 60000 ≤ 1000000000000) (hm : MAt w Bm M (p.L * 8) W r) (hL : ∀ x ∈ [b.Mb, b.Cb, b.TU, b.g1, b.g2], x < Bm) :
    Calls Tryz.prog 17 #[.pointer (some ⟨b.HP, 0, none⟩), .pointer (some ⟨M, 0, none⟩)] w fun e w' => e = .returned (.int .i64 0) ∧ Kept [b.Mb, b.Cb, b.TU, b.g1, b.g2] w w' := by
  have hst := h.st
  have hcn := hst.hB.count
  have KWD := Lib.hid (hp_words h)
  have KBL := Lib.hid (fun w1 v1 (h1 : SlOf w1 w.heap.size v1 1 (p.L * 8) (wordF W)) => blocks_any (w := w1) h1 hst.hB hst.he)
  have KMB := Lib.hid (fun w1 (hb1 : Below w.heap.size w w1) => rmblocks_any (hm.below hb1) hst.hB hst.he)
  have HH := Lib.hid h
  have HM := Lib.hid hm
  have HST := Lib.hid hst
  have HN := Lib.hid hcn
  have HL := Lib.hid hL
  have HXY := Lib.hid (And.intro hX hY)
  have hlt := hm.lt
  have KSA := fun w (ao1 : Option Addr) (c1 : Nat) => rsameans_any (w := w) (r := r) (ao1 := ao1) (c1 := c1) (ao2 := none) (c2 := 0)
  unfold ansV at KSA
  clear h hX hY hm hL hst hcn
  go_enter Tryz.func17, Tryz.ntmps17
  go_wp2_with fail
  refine KWD.out.mono ?_
  rintro _ w1 ⟨v1, rfl, hs1, hb1⟩
  have HS1 := Lib.hid hs1
  have HB1 := Lib.hid hb1
  obtain ⟨ao1, cap1, rfl⟩ := hs1.form
  clear hs1 hb1 KWD
  go_wp2_with fail
  refine (KBL.out _ _ HS1.out).mono ?_
  rintro _ w2 ⟨v2, rfl, hr2, hb2⟩
  have HR2 := Lib.hid (hr2.mono HB1.out.size)
  have HB2 := Lib.hid (HB1.out.trans (hb2.mono HB1.out.size))
  obtain ⟨ao2, cap2, rfl⟩ := hr2.form
  clear hr2 hb2 KBL HS1 HB1
  go_wp2_with fail
  have hM2 := HM.out.below HB2.out
  have hH2 := HH.out.below HB2.out
  have hc := hM2.cell
  have hlt2 := hM2.lt
  have HM2 := Lib.hid hM2
  have HH2 := Lib.hid hH2
  have HLT2 := Lib.hid hlt2
  clear hM2 hH2 hlt
  have hnl : M ∉ [b.Mb, b.Cb, b.TU, b.g1, b.g2] := fun hx => by have := HL.out M hx; have := HM.out.1; omega
  go_region_held3 (fun w' => cellAt (obj w' M) 1 = some (.int .i64 r))
    (first
      | exact hc
      | exact hS1
      | exact hS2
      | exact hS3
      | exact hS4)
    (first
      | (go_at_call 13; refine (KMB.out w2.drew HB2.out.drew).mono ?_; rintro _ w3 ⟨v3, rfl, hr3, hb3⟩; have hS1 : cellAt (obj w3 M) 1 = some (.int .i64 r) := (below_kept (w := w2.drew) hb3).cell hc (by simp); have hB3 : Below w.heap.size w w3 := HB2.out.drew.trans (hb3.mono HB2.out.size); have hR23 := (HR2.out.below (Below.refl _ _).drew).below hb3)
      | (go_at_call 41; refine (rsame_any hR23 hr3 (by have := HN.out; omega)).mono ?_; rintro _ w4 ⟨rfl, hb4⟩; have hS2 : cellAt (obj w4 M) 1 = some (.int .i64 r) := (below_kept hb4).cell hS1 (by simp); have hB4 : Below w.heap.size w w4 := hB3.trans (hb4.mono hB3.size); have hR24 := hR23.below hb4)
      | (go_at_call 43; refine (hp_get (HH.out.below hB4) (by have := HXY.out; omega) (by have := HXY.out; omega)).mono ?_; rintro _ w5 ⟨ao5, cap5, W5, rfl, hh5, hw5, hk5⟩; have hS3 := hk5.cell hS2 hnl)
      | (go_at_call 42; refine (KSA w5 ao5 cap5).mono ?_; rintro _ w6 ⟨rfl, hb6⟩; have hS4 := (below_kept hb6).cell hS3 (by simp)))
  have K6 : Kept [b.Mb, b.Cb, b.TU, b.g1, b.g2] w w6 := ((Kept.of_below hB4).trans hk5).then_below hb6
  have HR6 := Lib.hid ((hR24.kept hk5 (fun x hx => HH.out.lts x hx)).below hb6)
  have HH6 := Lib.hid (hh5.below hb6)
  have HW5 := Lib.hid hw5
  have HK6 := Lib.hid K6
  clear hS1 hS2 hS3 hS4 hB3 hB4 hb3 hb4 hk5 hb6 hR23 hR24 hr3 hh5 hw5 K6 hc hlt2 HM2 HH2 HLT2 KMB KSA HB2
  go_wp2_with fail
  go_loopw [52] (fun ix wr => ∃ (j : Nat) (W2 : Nat → Int), j ≤ B.n ∧ ix = .int .i64 j ∧ Hp wr b p B W2 r (X + 9 * (j + 1)) (Y + 200 * (j + 1)) ∧ (∀ t, t < p.L * 8 → W2 t = W t) ∧ Kept [b.Mb, b.Cb, b.TU, b.g1, b.g2] w wr ∧ RowSl wr w.heap.size (.slice ao2 B.n cap2) 3 B.n (blkF B)) (fun ix _ => B.n + 1 - (intOf ix).toNat)
  case atStart => exact ⟨0, W5, Nat.zero_le _, rfl, HH6.out, HW5.out, HK6.out, HR6.out⟩
  case round =>
    obtain ⟨j, W2, hj, rfl, hhp, hww, hkw, hrw⟩ := hrel
    have HHP := Lib.hid hhp
    have HWW := Lib.hid hww
    have HKW := Lib.hid hkw
    have HRW := Lib.hid hrw
    have hN := HN.out
    by_cases hlt : j < B.n
    · have hltz : (j : Int) < (B.n : Int) := by omega
      have j0 : (0 : Int) ≤ (j : Int) := Int.natCast_nonneg j
      have wj : IntKind.i64.wrap ((j : Int) + 1) = (j : Int) + 1 := by rw [IntKind.wrap_i64]; omega
      obtain ⟨g, off, cap', e, _, _, _, hg, hrow, _⟩ := blk_row hrw (by omega)
      obtain ⟨rfl, rfl⟩ : ao2 = some ⟨g, off, none⟩ ∧ cap2 = cap' := by simpa using e
      have hr := hrow j hlt
      have hsz := HST.out.hB.size hlt
      have hat := HST.out.hB.lt hlt
      have hbig := HST.out.hB.big
      have hho := fun (hu : B.us j = true) (n : Nat) h1 h2 => holds_whole HST.out.hB hlt hu (n := n) h1 h2
      have hle := HST.out.hB.le hlt
      obtain ⟨z, hz⟩ : ∃ z, B.at j = z := ⟨_, rfl⟩
      obtain ⟨s, hs⟩ : ∃ s, B.sz j = s := ⟨_, rfl⟩
      obtain ⟨u, hu⟩ : ∃ u, B.us j = u := ⟨_, rfl⟩
      rw [hz, hs, hu] at hr
      rw [hz, hs, hu] at hho
      rw [hz] at hat hle
      rw [hs] at hsz hle
      have HJ := Lib.hid hlt
      have hb1 := (Below.refl wr.heap.size wr).alloc (Nat.le_refl _) (.cells #[.int .i64 z, .int .i64 s, .bool u] 45)
      have HHP1 := Lib.hid (hhp.below hb1)
      have HRW1 := Lib.hid (hrw.below hb1)
      have HKW1 := Lib.hid (hkw.then_below hb1)
      have hq := newA wr (.cells #[.int .i64 z, .int .i64 s, .bool u] 45)
      have hgv : w.heap.size ≤ wr.heap.size := hkw.size
      cases u
      · clear hj hlt hhp hww hkw hrw hN e hrow hsz hat hbig hho hz hs hu hb1 hq hgv hle
        go_wp2_with fail
        exact ⟨⟨j + 1, W2, HJ.out, by simp, HHP1.out.mono (by omega) (by omega), HWW.out, HKW1.out, HRW1.out⟩, by have := HJ.out; simp only [intOf]; omega⟩
      · obtain ⟨s1, hs1⟩ : ∃ x, s - 1 = x := ⟨_, rfl⟩
        obtain ⟨s8, hs8⟩ : ∃ x, s1 * 8 = x := ⟨_, rfl⟩
        obtain ⟨nn, hnn⟩ : ∃ x, min 448 s8 = x := ⟨_, rfl⟩
        have ws1 : IntKind.i64.wrap ((s : Int) - 1) = (s1 : Int) := by rw [IntKind.wrap_i64]; omega
        have ws8 : IntKind.i64.wrap ((s1 : Int) * 8) = (s8 : Int) := by rw [IntKind.wrap_i64]; omega
        have wmin : min (448 : Int) (s8 : Int) = (nn : Int) := by omega
        have hhn := hho rfl nn (by omega) (by omega)
        obtain ⟨oo, hoo⟩ : ∃ x, (z + 1) * 8 = x := ⟨_, rfl⟩
        rw [hoo] at hhn
        have KO := fun w => roff_any z s true (by omega) w
        rw [hoo] at KO
        have KO := Lib.hid KO
        have HHN := Lib.hid hhn
        have HOO : Hid (oo + nn ≤ p.L * 8 * 8) := Lib.hid (by omega)
        have hgq : wr.heap.size ∉ [b.Mb, b.Cb, b.TU, b.g1, b.g2] := fun hx => by have := HH.out.lts _ hx; omega
        have HGQ := Lib.hid hgq
        have hql := lt_of_obj hq
        clear hj hlt hhp hww hkw hrw hN e hrow hsz hat hbig hho hz hs hu hb1 hgv hle hs1 hs8 hnn hhn hoo hgq
        go_wp2_with fail
        generalize wr.alloc (.cells #[.int .i64 z, .int .i64 s, .bool true] 45) = wa at hq hql HHP1 HRW1 HKW1 ⊢
        generalize wr.heap.size = ga at hq hql HGQ ⊢
        refine (KO.out _).mono ?_
        rintro _ w3 ⟨rfl, hb3⟩
        have HQ3 := Lib.hid (keep hb3 hq)
        have HHP3 := Lib.hid (HHP1.out.below hb3)
        have HRW3 := Lib.hid (HRW1.out.below hb3)
        have HKW3 := Lib.hid (HKW1.out.then_below hb3)
        have KR := hp_read HHP3.out (by have := HXY.out; have := HN.out; have := HJ.out; omega) (by have := HXY.out; have := HN.out; have := HJ.out; omega) HHN.out
        rw [Int.toNat_natCast, Int.toNat_natCast] at KR
        have KR := Lib.hid KR
        clear hb3 hq hql
        go_wp2_with fail
        refine KR.out.mono ?_
        rintro _ w4 ⟨ao4, cap4, W4, rfl, hh4, hw4, hs4, hk4⟩
        have hq4 := hk4.keep HQ3.out HGQ.out
        have hql4 := lt_of_obj hq4
        have hb5 := (Below.refl w4.heap.size w4).alloc (Nat.le_refl _) (.cells #[.int .i64 0, .int .i64 0, .slice ao4 nn cap4] 32)
        have HHP5 := Lib.hid (hh4.below hb5)
        have HRW5 := Lib.hid ((HRW3.out.kept hk4 (fun x hx => HH.out.lts x hx)).below hb5)
        have HKW5 := Lib.hid ((HKW3.out.trans hk4).then_below hb5)
        have HW4 : Hid (∀ t, t < p.L * 8 → W4 t = W t) := Lib.hid (fun t ht => (hw4 t ht).trans (HWW.out t ht))
        have HS5 := Lib.hid (hs4.below hb5)
        have hd5 := newA w4 (.cells #[.int .i64 0, .int .i64 0, .slice ao4 nn cap4] 32)
        have HQ5 := Lib.hid (keep hb5 hq4)
        clear hh4 hw4 hs4 hk4 KR HHP3 HRW3 HKW3 HQ3 hb5
        go_wp2_with fail
        have hq5 := HQ5.out
        generalize w4.alloc (.cells #[.int .i64 0, .int .i64 0, .slice ao4 nn cap4] 32) = w5 at HHP5 HRW5 HKW5 HS5 hd5 HQ5 hq5 ⊢
        generalize w4.heap.size = gd at hd5 ⊢
        clear hq4 hql4
        refine (KO.out _).mono ?_
        rintro _ w6' ⟨rfl, hb6⟩
        have hq6 := keep hb6 hq5
        have hd6 := keep hb6 hd5
        have HD6 := Lib.hid hd6
        have hdl6 := lt_of_obj hd6
        have HHP6 := Lib.hid (HHP5.out.below hb6)
        have HRW6 := Lib.hid (HRW5.out.below hb6)
        have HKW6 := Lib.hid (HKW5.out.then_below hb6)
        have HS6 := Lib.hid (HS5.out.below hb6)
        have KM := rmread_any (HM.out.kept HKW6.out HL.out) HST.out.hB HST.out.he HST.out.hw HHN.out
        rw [Int.toNat_natCast, Int.toNat_natCast] at KM
        have KM := Lib.hid KM
        clear hb6 hq5 hd5 HQ5 hq6 HHP5 HRW5 HKW5 HS5
        go_wp2_with fail
        refine KM.out.mono ?_
        rintro _ w7 ⟨v7, rfl, hs7, hb7⟩
        have hd7 := keep hb7 HD6.out
        have hdl7 := lt_of_obj hd7
        have HHP7 := Lib.hid (HHP6.out.below hb7)
        have HRW7 := Lib.hid (HRW6.out.below hb7)
        have HKW7 := Lib.hid (HKW6.out.then_below hb7)
        have KV1 := conv_bytes (HS6.out.below hb7)
        have KV2 := conv_bytes hs7
        obtain ⟨ao7, cap7, rfl⟩ := hs7.form
        rw [strN_congr (c := fun i => byteW W2 (oo + i)) (c' := fun i => byteW W (oo + i)) (fun i hi => by unfold byteW; rw [HWW.out _ (by have := HOO.out; omega)])] at KV1
        generalize strN (fun i => byteW W (oo + i)) nn = S at KV1 KV2
        clear hb7 hs7 hd6 hdl6 KM HS6 HHP6 HRW6 HKW6
        go_wp2_with fail
        exact ⟨⟨j + 1, W4, HJ.out, by simp, HHP7.out.mono (by omega) (by omega), HW4.out, HKW7.out, HRW7.out⟩, by have := HJ.out; simp only [intOf]; omega⟩
    · obtain rfl : j = B.n := by omega
      have hltz : ¬ (B.n : Int) < (B.n : Int) := by omega
      clear hj hhp hww hkw hrw hN hlt
      go_wp2
      go_ret
      exact ⟨rfl, HKW.out⟩
end
end Go.Proofs.YtphmfaddgpjndaaGreat

/- The longest free run, and the least one that is long enough. -/
namespace Go.Proofs.YtphmfaddgpjndaaGreat
open Go.ChangeShapes Go.WideShapes Go.RowKit Go.Maps

/-- the longest free one of the first j -/
def runN (b : Bs) : Nat → Nat
  | 0 => 0
  | j + 1 => if b.us j = false then max (runN b j) (b.sz j) else runN b j
/-- the least one of the first j that is free and long enough -/
def leastN (b : Bs) (need : Nat) : Nat → Nat
  | 0 => 0
  | j + 1 => if b.us j = false ∧ need ≤ b.sz j ∧ (leastN b need j = 0 ∨ b.sz j < leastN b need j) then b.sz j else leastN b need j
theorem run_le {b : Bs} {N : Nat} (hb : b.Ok N) : ∀ j, j ≤ b.n → runN b j ≤ 512
  | 0, _ => Nat.zero_le _
  | j + 1, hj => by
    have h1 := run_le hb j (by omega)
    have h2 := hb.size (show j < b.n by omega)
    unfold runN
    split <;> omega
theorem least_le {b : Bs} {N need : Nat} (hb : b.Ok N) : ∀ j, j ≤ b.n → leastN b need j ≤ 512
  | 0, _ => Nat.zero_le _
  | j + 1, hj => by
    have h1 := least_le (need := need) hb j (by omega)
    have h2 := hb.size (show j < b.n by omega)
    unfold leastN
    split <;> omega
theorem run_ge {b : Bs} {k : Nat} (hu : b.us k = false) : ∀ j, k < j → b.sz k ≤ runN b j
  | 0, h => by omega
  | j + 1, h => by
    unfold runN
    by_cases e : k = j
    · subst e; rw [if_pos hu]; omega
    · have := run_ge hu j (by omega)
      split <;> omega
theorem run_fits {b : Bs} {need : Nat} (h0 : 0 < need) : ∀ j, need ≤ runN b j → ∃ k, k < j ∧ fits b need k
  | 0, h => by have : need ≤ 0 := h; omega
  | j + 1, h => by
    unfold runN at h
    by_cases hu : b.us j = false
    · rw [if_pos hu] at h
      by_cases h2 : need ≤ b.sz j
      · exact ⟨j, by omega, hu, h2⟩
      · obtain ⟨k, h3, h4⟩ := run_fits (b := b) (need := need) h0 j (by omega)
        exact ⟨k, by omega, h4⟩
    · rw [if_neg hu] at h
      obtain ⟨k, h3, h4⟩ := run_fits h0 j h
      exact ⟨k, by omega, h4⟩
/-- what the least one is -/
theorem least_is {b : Bs} {need : Nat} (hs : ∀ j, j < b.n → 1 ≤ b.sz j) : ∀ j, j ≤ b.n → (leastN b need j = 0 → ∀ x, x < j → ¬ fits b need x) ∧ (leastN b need j ≠ 0 → ∃ k, k < j ∧ fits b need k ∧ b.sz k = leastN b need j) ∧ ∀ x, x < j → fits b need x → leastN b need j ≤ b.sz x
  | 0, _ => ⟨fun _ x hx => by omega, fun h => absurd rfl h, fun x hx => by omega⟩
  | j + 1, hj => by
    obtain ⟨h1, h2, h3⟩ := least_is (need := need) hs j (by omega)
    have hsj := hs j (by omega)
    unfold leastN
    by_cases hc : b.us j = false ∧ need ≤ b.sz j ∧ (leastN b need j = 0 ∨ b.sz j < leastN b need j)
    · rw [if_pos hc]
      refine ⟨fun h => by omega, fun _ => ⟨j, by omega, ⟨hc.1, hc.2.1⟩, rfl⟩, fun x hx hf => ?_⟩
      by_cases e : x = j
      · subst e; exact Nat.le_refl _
      · rcases hc.2.2 with h4 | h4
        · exact absurd hf (h1 h4 x (by omega))
        · have := h3 x (by omega) hf; omega
    · rw [if_neg hc]
      have hn : fits b need j → leastN b need j ≠ 0 ∧ leastN b need j ≤ b.sz j := fun hf => by
        constructor
        · intro e; exact hc ⟨hf.1, hf.2, Or.inl e⟩
        · rcases Nat.lt_or_ge (b.sz j) (leastN b need j) with h4 | h4
          · exact absurd ⟨hf.1, hf.2, Or.inr h4⟩ hc
          · exact h4
      refine ⟨fun h x hx hf => ?_, fun h => ?_, fun x hx hf => ?_⟩
      · by_cases e : x = j
        · subst e; exact (hn hf).1 h
        · exact h1 h x (by omega) hf
      · obtain ⟨k, h4, h5⟩ := h2 h
        exact ⟨k, by omega, h5⟩
      · by_cases e : x = j
        · subst e; exact (hn hf).2
        · exact h3 x (by omega) hf
theorem least_eq {b : Bs} {N need k : Nat} (hb : b.Ok N) (hk : k < b.n) (hf : fits b need k) (hl : ∀ j, j < b.n → fits b need j → b.sz k ≤ b.sz j) : leastN b need b.n = b.sz k := by
  obtain ⟨h1, h2, h3⟩ := least_is (b := b) (need := need) (fun j hj => by have := hb.size hj; omega) b.n (Nat.le_refl _)
  by_cases e : leastN b need b.n = 0
  · exact absurd hf (h1 e k hk)
  · obtain ⟨x, hx, hfx, hsx⟩ := h2 e
    have h4 := hl x hx hfx
    have h5 := h3 k hk hf
    omega
end Go.Proofs.YtphmfaddgpjndaaGreat
