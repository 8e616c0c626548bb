/- Contracts and laws of their own, used by the claim's theorem: The reference model (darningref4): its small functions. -/
import Derived.Test.YtphmfaddgpjndaaGreatPk8
namespace Go.Proofs.YtphmfaddgpjndaaGreat
open Go.ChangeShapes Go.WideShapes Go.RowKit Go.Maps

set_option maxHeartbeats 400000 in
theorem rmaysize_any (s : Nat) (h : 2 ≤ s ∧ s ≤ 512) (w : World) : Calls Tryz.prog 101 #[.int .i64 s] w fun e w' => e = .returned (.bool true) ∧ w = w' := by
  have d1 : (s : Int) ≥ 2 := by omega
  have d2 : (s : Int) ≤ 512 := by omega
  clear h
  go_enter Tryz.func101, Tryz.ntmps101
  go_wp2
  go_ret
  exact ⟨rfl, rfl⟩
set_option maxHeartbeats 800000 in
theorem rword_any (s : Nat) (u : Bool) (h : 2 ≤ s ∧ s ≤ 512) (w : World) : Calls Tryz.prog 62 #[.int .i64 s, .bool u] w fun e w' => e = .returned (.int .u64 (hdr s u : Nat)) ∧ w = w' := by
  have K := Lib.hid (rmaysize_any s h w)
  have w1 : IntKind.u64.wrap (s : Int) = (s : Int) := by rw [IntKind.wrap_u64]; omega
  obtain ⟨d, hd⟩ : ∃ d, 2 * s = d := ⟨_, rfl⟩
  have w2 : IntKind.u64.wrap ((s : Int) * 2) = (d : Int) := by rw [IntKind.wrap_u64]; omega
  have e1 := oru1 s (by omega)
  rw [hd] at e1
  cases u
  · have e2 : hdr s false = d := by unfold hdr; rw [hd]; rfl
    rw [e2]
    clear h hd e2
    go_enter Tryz.func62, Tryz.ntmps62
    go_wp2_with (go_at_call 101; refine K.out.mono ?_; rintro _ _ ⟨rfl, rfl⟩)
    go_ret
    exact ⟨rfl, rfl⟩
  · have e2 : hdr s true = d + 1 := by unfold hdr; rw [hd]; rfl
    rw [e2]
    obtain ⟨d1, hd1⟩ : ∃ d1, d + 1 = d1 := ⟨_, rfl⟩
    rw [hd1] at e1 ⊢
    clear h hd e2 hd1
    go_enter Tryz.func62, Tryz.ntmps62
    go_wp2_with (go_at_call 101; refine K.out.mono ?_; rintro _ _ ⟨rfl, rfl⟩)
    go_ret
    exact ⟨rfl, rfl⟩
set_option maxHeartbeats 800000 in
theorem rparse_any (s : Nat) (u : Bool) (h : 2 ≤ s ∧ s ≤ 512) (w : World) : Calls Tryz.prog 63 #[.int .u64 (hdr s u : Nat)] w fun e w' => e = .returned (.tuple #[.int .i64 s, .bool u, .bool true]) ∧ w = w' := by
  have K := Lib.hid (rmaysize_any s h w)
  obtain ⟨d, hd⟩ : ∃ d, hdr s u = d := ⟨_, rfl⟩
  have hd2 : d = 2 * s + (if u = true then 1 else 0) := hd.symm
  have e1 : (d : Int) / 2 = (s : Int) := by split at hd2 <;> omega
  have e2 : (d : Int) % 2 = if u = true then 1 else 0 := by split at hd2 <;> simp_all <;> omega
  have w1 : IntKind.i64.wrap (s : Int) = (s : Int) := by rw [IntKind.wrap_i64]; omega
  have w2 : IntKind.u64.wrap (s : Int) = (s : Int) := by rw [IntKind.wrap_u64]; omega
  have d1 : ¬ (s : Int) > 512 := by omega
  have d2 : ¬ (s : Int) < 2 := by omega
  have e3 := andu1 (d : Int)
  rw [hd]
  clear hd hd2 h
  cases u
  · rw [e2] at e3
    simp only [Bool.false_eq_true, if_false] at e3
    clear e2
    go_enter Tryz.func63, Tryz.ntmps63
    go_wp2_with (go_at_call 101; refine K.out.mono ?_; rintro _ _ ⟨rfl, rfl⟩)
    go_ret3
    exact ⟨rfl, rfl⟩
  · rw [e2] at e3
    simp only [if_true] at e3
    clear e2
    go_enter Tryz.func63, Tryz.ntmps63
    go_wp2_with (go_at_call 101; refine K.out.mono ?_; rintro _ _ ⟨rfl, rfl⟩)
    go_ret3
    exact ⟨rfl, rfl⟩
set_option maxHeartbeats 800000 in
theorem rmayw_any (L : Nat) (h : 1 ≤ L ∧ L ≤ 64) (w : World) : Calls Tryz.prog 33 #[.int .i64 (L * 8 : Nat)] w fun e w' => e = .returned (.bool true) ∧ w = w' := by
  have e1 : ((L * 8 : Nat) : Int).tmod 8 = 0 := by have := tmod_nat (L * 8) 8; rw [Nat.mul_mod_left] at this; exact this
  obtain ⟨N, hN⟩ : ∃ N, L * 8 = N := ⟨_, rfl⟩
  rw [hN] at e1 ⊢
  have d1 : (N : Int) ≥ 8 := by omega
  have d2 : (N : Int) ≤ 512 := by omega
  have e2 : (N : Int) % 8 = 0 := by omega
  have e3 : N % 8 = 0 := by omega
  clear h hN
  go_enter Tryz.func33, Tryz.ntmps33
  go_wp2
  go_ret
  exact ⟨rfl, rfl⟩
set_option maxHeartbeats 800000 in
theorem rneed_any (n : Int) (w : World) : Calls Tryz.prog 66 #[.int .i64 n] w fun e w' => e = .returned (.int .i64 (needN n)) ∧ w = w' := by
  unfold needN
  by_cases h1 : n < 1
  · rw [if_neg (by omega)]
    go_enter Tryz.func66, Tryz.ntmps66
    go_wp2
    go_ret
    exact ⟨rfl, rfl⟩
  · by_cases h2 : n > 448
    · rw [if_neg (by omega)]
      go_enter Tryz.func66, Tryz.ntmps66
      go_wp2
      go_ret
      exact ⟨rfl, rfl⟩
    · rw [if_pos (by omega)]
      obtain ⟨m, rfl⟩ : ∃ m : Nat, n = m := ⟨n.toNat, by omega⟩
      rw [Int.toNat_natCast]
      obtain ⟨a, ha⟩ : ∃ a, m + 7 = a := ⟨_, rfl⟩
      obtain ⟨b, hb⟩ : ∃ b, a / 8 = b := ⟨_, rfl⟩
      have w1 : IntKind.i64.wrap ((m : Int) + 7) = (a : Int) := by rw [IntKind.wrap_i64]; omega
      have e1 : (a : Int).tdiv 8 = (b : Int) := by have := tdiv_nat a 8; rw [hb] at this; exact this
      have e2 : (a : Int) / 8 = (b : Int) := by omega
      have w2 : IntKind.i64.wrap (b : Int) = (b : Int) := by rw [IntKind.wrap_i64]; omega
      have w3 : IntKind.i64.wrap (1 + (b : Int)) = ((b + 1 : Nat) : Int) := by rw [IntKind.wrap_i64]; omega
      rw [ha, hb]
      generalize hB : b + 1 = B at w3
      clear ha hb hB
      go_enter Tryz.func66, Tryz.ntmps66
      go_wp2
      go_ret
      exact ⟨rfl, rfl⟩
set_option maxHeartbeats 800000 in
theorem rtakes_any (s n : Nat) (h : 2 ≤ n ∧ n ≤ s ∧ s ≤ 512) (w : World) : Calls Tryz.prog 103 #[.int .i64 s, .int .i64 n] w fun e w' => e = .returned (.int .i64 (takesN s n)) ∧ w = w' := by
  have d1 : ¬ (n : Int) < 2 := by omega
  have d2 : ¬ (n : Int) > (s : Int) := by omega
  have w1 : IntKind.i64.wrap ((s : Int) - (n : Int)) = (s : Int) - (n : Int) := by rw [IntKind.wrap_i64]; omega
  unfold takesN
  by_cases h2 : n + 2 ≤ s
  · have d3 : ¬ (s : Int) - (n : Int) < 2 := by omega
    rw [if_pos h2]
    clear h h2
    go_enter Tryz.func103, Tryz.ntmps103
    go_wp2
    go_ret
    exact ⟨rfl, rfl⟩
  · have d3 : (s : Int) - (n : Int) < 2 := by omega
    rw [if_neg h2]
    clear h h2
    go_enter Tryz.func103, Tryz.ntmps103
    go_wp2
    go_ret
    exact ⟨rfl, rfl⟩
set_option maxHeartbeats 800000 in
theorem roff_any (a s : Nat) (u : Bool) (ha : a ≤ 512) (w : World) : Calls Tryz.prog 15 #[.agg #[.int .i64 a, .int .i64 s, .bool u]] w fun e w' => e = .returned (.int .i64 ((a + 1) * 8 : Nat)) ∧ Below w.heap.size w w' := by
  obtain ⟨b, hb⟩ : ∃ b, a + 1 = b := ⟨_, rfl⟩
  obtain ⟨c, hc⟩ : ∃ c, b * 8 = c := ⟨_, rfl⟩
  rw [hb, hc]
  have d1 : ¬ (a : Int) < 0 := by omega
  have d2 : ¬ (a : Int) > 512 := by omega
  have w1 : IntKind.i64.wrap ((a : Int) + 1) = (b : Int) := by rw [IntKind.wrap_i64]; omega
  have w2 : IntKind.i64.wrap ((b : Int) * 8) = (c : Int) := by rw [IntKind.wrap_i64]; omega
  have HB : Hid (Below w.heap.size w (w.alloc (.cells #[.int .i64 a, .int .i64 s, .bool u] 45))) := Lib.hid ((Below.refl _ _).alloc (Nat.le_refl _) _)
  have hq := newA w (.cells #[.int .i64 a, .int .i64 s, .bool u] 45)
  have hql := lt_of_obj hq
  clear ha hb hc
  go_enter Tryz.func15, Tryz.ntmps15
  go_wp2_with fail
  go_ret
  exact ⟨rfl, HB.out⟩
set_option maxRecDepth 100000 in
set_option maxHeartbeats 1600000 in
theorem rfirst_any (w : World) (L : Nat) (h : 1 ≤ L ∧ L ≤ 64) : Calls Tryz.prog 34 #[.int .i64 (L * 8 : Nat)] w fun e w' => ∃ v, e = .returned v ∧ RowSl w' w.heap.size v 1 (L * 8) (wordF (firstW (L * 8))) ∧ Below w.heap.size w w' := by
  obtain ⟨i0, hi0, hz0, hz1, hz2⟩ := info_parts' info25
  have K0 := Lib.hid (rmayw_any L h w)
  obtain ⟨N, hN⟩ : ∃ N, L * 8 = N := ⟨_, rfl⟩
  rw [hN] at K0 ⊢
  obtain ⟨w1, hmk, ho, hg⟩ := run_make_full (P := Tryz.prog) w w.heap.size 54 25 i0 _ 1 Tryz.underlying54 hi0 hz0 hz1 .i64 .i64 N (by rw [hz2]; omega) (by unfold maxLen; omega) (Nat.le_refl _)
  have hb1 : Below w.heap.size w w1 := (Below.refl _ _).grown hg (Nat.le_refl _) (fun _ h => by cases h)
  rw [Nat.mul_one, show (Value.int .u64 0).cells = #[Value.int .u64 0] from rfl, flat_zero] at ho
  have KW := Lib.hid (fun w => rword_any N false (by omega) w)
  have hc0 := (own_row ho (fun e => by omega)).cells (by omega)
  obtain ⟨g, off, cap, e, _, _, _, _, _, hc⟩ := hc0
  obtain ⟨⟨rfl, rfl⟩, rfl⟩ : (w.heap.size = g ∧ 0 = off) ∧ N = cap := by simpa using e
  have hc1 := hc 0 (by omega) 0 (by decide)
  have hi1 := ho.frozenAt 0
  rw [frozen?_heap] at hi1
  have hst := (World.ownsRow.stored ho 0 (.int .u64 (hdr N false : Nat))).1
  rw [flat_first N (by omega)] at hst
  have HO := Lib.hid (own_row hst (fun e => by omega))
  have HB1 := Lib.hid hb1
  have d1 : (0 : Int) < (N : Int) := by omega
  have d2 : 0 < N := by omega
  generalize hh : hdr N false = hd at KW HO
  have HH := Lib.hid hh
  clear h hN ho hg hb1 hst hc e hh
  simp only [Nat.mul_one, Nat.add_zero, Nat.zero_add] at hc1
  go_enter Tryz.func34, Tryz.ntmps34
  go_wp2_with fail
  refine K0.out.mono ?_
  rintro _ _ ⟨rfl, rfl⟩
  go_wp2_with fail
  refine (KW.out _).mono ?_
  rintro _ _ ⟨rfl, rfl⟩
  go_wp2
  go_ret
  exact ⟨_, rfl, HO.out, HB1.out.setCell (Nat.le_refl _) _⟩

end Go.Proofs.YtphmfaddgpjndaaGreat

/- The reference model: its blocks. -/
namespace Go.Proofs.YtphmfaddgpjndaaGreat
open Go.ChangeShapes Go.WideShapes Go.RowKit Go.Maps

set_option maxRecDepth 100000 in
set_option maxHeartbeats 6400000 in
theorem rmayb_any {w : World} {B L : Nat} {v : Value} {b : Bs} (h : RowSl w B v 3 b.n (blkF b)) (hb : b.Ok (L * 8)) : Calls Tryz.prog 64 #[v, .int .i64 (L * 8 : Nat)] w fun e w' => e = .returned (.bool true) ∧ Below w.heap.size w w' := by
  have hcn := hb.count
  have hbig := hb.big
  obtain ⟨g, off, cap, rfl, _, _, _, hg, hrow, hcell⟩ := blk_row h (by omega)
  have HCELL := Lib.hid hcell
  have K0 := Lib.hid (rmayw_any L (by omega) w)
  have HROW := Lib.hid hrow
  have HB := Lib.hid hb
  have HC := Lib.hid hcn
  have HBIG := Lib.hid hbig
  have HG := Lib.hid hg
  have KB := Lib.hid (fun i (hi : i < b.n) w => rmaysize_any (b.sz i) (hb.size hi) w)
  obtain ⟨N, hN⟩ : ∃ N, L * 8 = N := ⟨_, rfl⟩
  have HN := Lib.hid hN
  rw [hN] at K0 HB HBIG ⊢
  clear h hb hcn hbig hrow hg hN hcell
  go_enter Tryz.func64, Tryz.ntmps64
  go_wp2_with fail
  refine K0.out.mono ?_
  rintro _ _ ⟨rfl, rfl⟩
  clear K0
  go_wp2_with fail
  go_loopw [13, 5] (fun i a wr => ∃ j : Nat, j ≤ b.n ∧ i = .int .i64 j ∧ a = .int .i64 (b.at j) ∧ Below w.heap.size w wr) (fun i _ _ => b.n - (intOf i).toNat)
  case atStart => exact ⟨0, Nat.zero_le _, rfl, rfl, Below.refl _ _⟩
  case round =>
    obtain ⟨j, hj, rfl, rfl, hbr⟩ := hrel
    have HBR := Lib.hid hbr
    by_cases hlt : j < b.n
    · have hltz : (j : Int) < (b.n : Int) := by omega
      have j0 : (0 : Int) ≤ (j : Int) := Int.natCast_nonneg j
      have wj : IntKind.i64.wrap ((j : Int) + 1) = (j : Int) + 1 := by have := HC.out; rw [IntKind.wrap_i64]; omega
      have hr := HROW.out j hlt
      rw [← obj_below hbr HG.out] at hr
      have KBj := Lib.hid (KB.out j hlt)
      have hle := HB.out.le hlt
      have hbg := HBIG.out
      have hsz := HB.out.size hlt
      have hat1 : b.at (j + 1) = b.at j + b.sz j := rfl
      have halt : 0 < j → b.us (j - 1) = true ∨ b.us j = true := by
        intro h
        have := HB.out.alt (j - 1) (by omega)
        rwa [show j - 1 + 1 = j by omega] at this
      have hprev : 0 < j → cellAt (obj wr g) (off + (j - 1) * 3 + 2) = some (.bool (b.us (j - 1))) := by
        intro h
        have := (HCELL.out (j - 1) (by omega)).2.2
        rwa [← obj_below hbr HG.out] at this
      have hgw : g < wr.heap.size := by have := hbr.size; have := HG.out; omega
      obtain ⟨u, hu⟩ : ∃ u, b.us j = u := ⟨_, rfl⟩
      obtain ⟨s, hs⟩ : ∃ s, b.sz j = s := ⟨_, rfl⟩
      obtain ⟨a, ha⟩ : ∃ a, b.at j = a := ⟨_, rfl⟩
      rw [hu] at hr halt
      rw [hs] at hr hle hsz hat1 KBj
      rw [ha] at hr hle hat1
      rw [ha]
      have d1 : ¬ (s : Int) > (N : Int) - (a : Int) := by omega
      have w1 : IntKind.i64.wrap ((N : Int) - (a : Int)) = (N : Int) - (a : Int) := by rw [IntKind.wrap_i64]; omega
      obtain ⟨a2, ha2⟩ : ∃ a2, a + s = a2 := ⟨_, rfl⟩
      have w2 : IntKind.i64.wrap ((a : Int) + (s : Int)) = (a2 : Int) := by rw [IntKind.wrap_i64]; omega
      have HX := Lib.hid (And.intro hlt (hat1.trans ha2))
      rcases Nat.eq_zero_or_pos j with h0 | h0
      · subst h0
        rw [Nat.zero_mul, Nat.add_zero] at hr
        clear hbr hj hlt hle hbg hsz hat1 hu hs ha ha2 halt hprev
        go_wp2_with fail
        refine (KBj.out _).mono ?_
        rintro _ _ ⟨rfl, rfl⟩
        go_wp2_with fail
        exact ⟨⟨0 + 1, HX.out.1, by simp, by rw [HX.out.2], HBR.out.alloc HBR.out.size _⟩, by have := HX.out.1; simp only [intOf]; omega⟩
      · have h0' := hprev h0
        have hal := halt h0
        have hj1 : wrap64 ((j : Int) - 1) = ((j - 1 : Nat) : Int) := by have := HC.out; unfold wrap64; omega
        have hj2 : ((j - 1 : Nat) : Int) < (b.n : Int) := by omega
        have hj3 : (0 : Int) ≤ ((j - 1 : Nat) : Int) := Int.natCast_nonneg _
        have hjp : (0 : Int) < (j : Int) := by omega
        obtain ⟨u0, hu0⟩ : ∃ u0, b.us (j - 1) = u0 := ⟨_, rfl⟩
        rw [hu0] at h0' hal
        clear hbr hj hlt hle hbg hsz hat1 hu hs ha ha2 halt hprev hu0
        cases u
        · obtain rfl : u0 = true := by simpa using hal
          clear hal
          go_wp2_with fail
          refine (KBj.out _).mono ?_
          rintro _ _ ⟨rfl, rfl⟩
          go_wp2_with fail
          exact ⟨⟨j + 1, HX.out.1, by simp, by rw [HX.out.2], HBR.out.alloc HBR.out.size _⟩, by have := HX.out.1; simp only [intOf]; omega⟩
        · clear hal
          go_wp2_with fail
          refine (KBj.out _).mono ?_
          rintro _ _ ⟨rfl, rfl⟩
          go_wp2_with fail
          exact ⟨⟨j + 1, HX.out.1, by simp, by rw [HX.out.2], HBR.out.alloc HBR.out.size _⟩, by have := HX.out.1; simp only [intOf]; omega⟩
    · have e : j = b.n := by omega
      subst e
      have hltz : ¬ (b.n : Int) < (b.n : Int) := by omega
      rw [HB.out.sum]
      clear hj hlt hbr
      go_wp2
      go_ret
      exact ⟨rfl, HBR.out⟩
set_option maxRecDepth 100000 in
set_option maxHeartbeats 6400000 in
theorem rblocks_any {w : World} {B L : Nat} {v : Value} {W : Nat → Int} {b : Bs} (h : SlOf w B v 1 (L * 8) (wordF W)) (hb : b.Ok (L * 8)) (he : Enc W b) :
    Calls Tryz.prog 35 #[v] w fun e w' => ∃ v', e = .returned (.tuple #[v', .bool true]) ∧ RowSl w' w.heap.size v' 3 b.n (blkF b) ∧ Below w.heap.size w w' := by
  obtain ⟨i0, hi0, hz0, hz1, hz2⟩ := info_parts' info45
  have hcn := hb.count
  have hbig := hb.big
  obtain ⟨g, off, cap, rfl, _, _, _, hcell⟩ := h.cells (by omega)
  have HCELL := Lib.hid hcell
  have HB := Lib.hid hb
  have HC := Lib.hid hcn
  have HBIG := Lib.hid hbig
  have HE := Lib.hid he
  obtain ⟨N, hN⟩ : ∃ N, L * 8 = N := ⟨_, rfl⟩
  have HN := Lib.hid hN
  rw [hN] at HB HBIG HCELL ⊢
  clear h hb he hcn hbig hcell hN
  go_enter Tryz.func35, Tryz.ntmps35
  go_wp2_with fail
  go_loopw [5, 4] (fun a s wr => ∃ j : Nat, j ≤ b.n ∧ a = .int .i64 (b.at j) ∧ wr.ownsRow w.heap.size 45 3 s j (flatF 3 (blkF b) j) ∧ (j = 0 → s = .slice none 0 0) ∧ Below w.heap.size w wr) (fun a _ _ => N - (intOf a).toNat)
  case atStart => exact ⟨0, Nat.zero_le _, rfl, World.ownsRow_nil _ _ _ _, fun _ => rfl, Below.refl _ _⟩
  case round =>
    obtain ⟨j, hj, rfl, ho, hz, hbr⟩ := hrel
    have HO := Lib.hid ho
    have HZ := Lib.hid hz
    have HBR := Lib.hid hbr
    by_cases hlt : j < b.n
    · have hat := HB.out.lt hlt
      have hsz := HB.out.size hlt
      have hle := HB.out.le hlt
      have hbg := HBIG.out
      have hc1 : cellAt (obj wr g) (off + b.at j) = some (.int .u64 (hdr (b.sz j) (b.us j) : Nat)) := by
        have h1 := HCELL.out (b.at j) hat 0 (by decide)
        rw [Nat.mul_one, Nat.add_zero] at h1
        have h2 : cellAt (obj w g) (off + b.at j) = some (.int .u64 (hdr (b.sz j) (b.us j) : Nat)) := by rw [h1]; show some (Value.int .u64 (W (b.at j))) = _; rw [HE.out j hlt]
        exact (below_kept hbr).cell h2 (by simp)
      have KP := Lib.hid (fun w => rparse_any (b.sz j) (b.us j) hsz w)
      have hat1 : b.at (j + 1) = b.at j + b.sz j := rfl
      have hnew := blk_news b j
      obtain ⟨u, hu⟩ : ∃ u, b.us j = u := ⟨_, rfl⟩
      obtain ⟨s, hs⟩ : ∃ s, b.sz j = s := ⟨_, rfl⟩
      obtain ⟨a, ha⟩ : ∃ a, b.at j = a := ⟨_, rfl⟩
      rw [hu, hs] at KP
      rw [ha, hs, hu] at hnew hc1
      rw [ha, hs] at hat1
      rw [ha] at hat
      rw [hs] at hsz
      rw [ha, hs] at hle
      rw [ha]
      obtain ⟨a2, ha2⟩ : ∃ a2, a + s = a2 := ⟨_, rfl⟩
      have w2 : IntKind.i64.wrap ((a : Int) + (s : Int)) = (a2 : Int) := by rw [IntKind.wrap_i64]; omega
      have d1 : (a : Int) < (N : Int) := by omega
      have d0 : (0 : Int) ≤ (a : Int) := Int.natCast_nonneg a
      generalize hhd : hdr s u = hd at hc1 KP
      have HX := Lib.hid (And.intro hlt (And.intro (hat1.trans ha2) (And.intro hnew (show a < N ∧ a < a2 ∧ a2 ≤ N by omega))))
      clear hj hlt ho hz hbr hle hbg hsz hat1 hu hs ha ha2 hhd hnew hat
      go_wp2_with fail
      refine (KP.out _).mono ?_
      rintro _ _ ⟨rfl, rfl⟩
      go_wp2_with (at_builtin; refine wpList_append_lies _ rfl (.tmp 24) (.tmp 29) 42 rfl w.heap.size 45 i0 _ 3 24 Tryz.underlying42 hi0 hz0 hz1 hz2 rfl (by decide) _ j _ rfl (HO.out.alloc _) ⟨wr.heap.size, 0, none⟩ 1 1 [.int .i64 a, .int .i64 s, .bool u] rfl rfl (news_new _ _ _) (by simp [Value.oneCell']) (by decide) (by have := HX.out.1; have := HC.out; unfold maxLen; omega) (by have := HX.out.1; have := HC.out; omega) (by have := HBR.out.size; simp; omega) (wr.heap.size + 1) (by simp) ?_; intro gA capA wA hownA hgrowA hatA hltA)
      exact ⟨⟨j + 1, HX.out.1, by rw [HX.out.2.1], by rw [flatF_succ, HX.out.2.2.1]; exact hownA, fun e => (by omega), below_own HBR.out HBR.out.size HO.out hgrowA⟩, by have := HX.out.2.2.2; simp only [intOf]; omega⟩
    · have e : j = b.n := by omega
      subst e
      have hltz : ¬ (N : Int) < (N : Int) := by omega
      rw [HB.out.sum]
      have hr := own_row HO.out HZ.out
      have KM := rmayb_any (L := L) hr (by rw [HN.out]; exact HB.out)
      rw [HN.out] at KM
      have KM := Lib.hid KM
      have HR := Lib.hid hr
      clear hj hlt ho hz hbr hr
      go_wp2_with fail
      refine KM.out.mono ?_
      rintro _ w2 ⟨rfl, hb2⟩
      have HR2 := Lib.hid (HR.out.below hb2)
      have HB2 := Lib.hid (HBR.out.trans (hb2.mono HBR.out.size))
      clear hb2 KM
      go_wp2
      go_ret2
      exact ⟨_, rfl, HR2.out, HB2.out⟩
end Go.Proofs.YtphmfaddgpjndaaGreat

/- The reference model: sums of sizes, fits, edits done. -/
namespace Go.Proofs.YtphmfaddgpjndaaGreat
open Go.ChangeShapes Go.WideShapes Go.RowKit Go.Maps

set_option maxRecDepth 100000 in
set_option maxHeartbeats 3200000 in
theorem rsizes_any {w : World} {B n : Nat} {v : Value} {a s : Nat → Nat} {u : Nat → Bool} (h : RowSl w B v 3 n (blkR a s u)) (h2 : ∀ i, i < n → 2 ≤ s i ∧ s i ≤ 512) (h3 : sumN s n ≤ 512) :
    Calls Tryz.prog 130 #[v] w fun e w' => e = .returned (.int .i64 (sumN s n : Nat)) ∧ Below w.heap.size w w' := by
  obtain ⟨ao, cap0, rfl⟩ := h.form
  have hnn : n ≤ 256 := by have := sumN_two (s := s) n fun i hi => (h2 i hi).1; omega
  have HROW : Hid (∀ i, i < n → ∃ g off, ao = some ⟨g, off, none⟩ ∧ g < w.heap.size ∧ rowAt (obj w g) (off + i * 3) 3 = some #[.int .i64 (a i), .int .i64 (s i), .bool (u i)]) := Lib.hid (fun i hi => by
    obtain ⟨g, off, cap, e, _, _, _, hg, hrow, _⟩ := blkR_row h (by omega)
    have e1 : ao = some ⟨g, off, none⟩ ∧ cap0 = cap := by simpa using e
    exact ⟨g, off, e1.1, hg, hrow i hi⟩)
  have H2 := Lib.hid h2
  have HS := Lib.hid h3
  have HN := Lib.hid hnn
  have HM := Lib.hid (fun i j (hij : i ≤ j) => sumN_mono s hij)
  clear h h2 h3 hnn
  go_enter Tryz.func130, Tryz.ntmps130
  go_wp2_with fail
  go_loopw [8, 3] (fun ix t wr => ∃ i : Nat, i ≤ n ∧ ix = .int .i64 i ∧ t = .int .i64 (sumN s i : Nat) ∧ Below w.heap.size w wr) (fun ix _ _ => n - (intOf ix).toNat)
  case atStart => exact ⟨0, Nat.zero_le _, rfl, rfl, Below.refl _ _⟩
  case round =>
    obtain ⟨i, hi, rfl, rfl, hbr⟩ := hrel
    have HBR := Lib.hid hbr
    by_cases hlt : i < n
    · have hltz : (i : Int) < (n : Int) := by omega
      have i0' : (0 : Int) ≤ (i : Int) := Int.natCast_nonneg i
      have wi : IntKind.i64.wrap ((i : Int) + 1) = (i : Int) + 1 := by have := HN.out; rw [IntKind.wrap_i64]; omega
      obtain ⟨g, off, rfl, hg, hr⟩ := HROW.out i hlt
      rw [← obj_below hbr hg] at hr
      have hx2 := H2.out i hlt
      have h1 := HM.out i n (by omega)
      have h2 := HM.out (i + 1) n (by omega)
      have h3 := HS.out
      have he : sumN s (i + 1) = sumN s i + s i := rfl
      obtain ⟨t, ht⟩ : ∃ t, sumN s i = t := ⟨_, rfl⟩
      obtain ⟨x, hx⟩ : ∃ x, s i = x := ⟨_, rfl⟩
      obtain ⟨z, hz⟩ : ∃ z, a i = z := ⟨_, rfl⟩
      obtain ⟨y, hy⟩ : ∃ y, u i = y := ⟨_, rfl⟩
      rw [ht, hx] at he
      rw [ht] at h1 ⊢
      rw [hx, hy, hz] at hr
      rw [hx] at hx2
      have d1 : ¬ (x : Int) > 1000 := by omega
      have d2 : ¬ (x : Int) < 0 := by omega
      obtain ⟨t2, ht2⟩ : ∃ t2, t + x = t2 := ⟨_, rfl⟩
      have w2 : IntKind.i64.wrap ((t : Int) + (x : Int)) = (t2 : Int) := by rw [IntKind.wrap_i64]; omega
      have HX := Lib.hid (And.intro hlt (he.trans ht2))
      clear hi hlt hbr h1 h2 h3 he ht hx hz hy ht2 hg hx2
      go_wp2_with fail
      exact ⟨⟨i + 1, HX.out.1, by simp, by rw [HX.out.2], HBR.out.alloc HBR.out.size _⟩, by have := HX.out.1; simp only [intOf]; omega⟩
    · have e : i = n := by omega
      subst e
      have hltz : ¬ (i : Int) < (i : Int) := by omega
      clear hi hlt hbr
      go_wp2
      go_ret
      exact ⟨rfl, HBR.out⟩
/-- the smallest ones of the first i, all of them -/
structure FitsJ (b : Bs) (need i m : Nat) (f : Nat → Nat) : Prop extends FitsI b need i m f where
  all : ∀ j, j < i → fits b need j → (∀ x, x < i → fits b need x → b.sz j ≤ b.sz x) → ∃ t, t < m ∧ f t = j
section
variable {b : Bs} {need i m : Nat} {f : Nat → Nat}
theorem FitsJ.skip (h : FitsJ b need i m f) (hn : ¬ fits b need i) : FitsJ b need (i + 1) m f := by
  refine ⟨h.toFitsI.skip hn, fun j hj hf hl => ?_⟩
  by_cases e : j = i
  · subst e; exact absurd hf hn
  · exact h.all j (by omega) hf fun x hx => hl x (by omega)
theorem FitsJ.larger (h : FitsJ b need i m f) (hm : 0 < m) (hl : b.sz (f 0) < b.sz i) : FitsJ b need (i + 1) m f := by
  refine ⟨h.toFitsI.larger hm hl, fun j hj hf hl2 => ?_⟩
  by_cases e : j = i
  · subst e
    have h1 := h.good 0 hm
    have := hl2 (f 0) (by omega) h1.2.1
    omega
  · exact h.all j (by omega) hf fun x hx => hl2 x (by omega)
theorem FitsJ.one (hf : fits b need i) (h : ∀ j, j < i → fits b need j → b.sz i < b.sz j) : FitsJ b need (i + 1) 1 (updF f 0 i) := by
  refine ⟨FitsI.one hf fun j hj hfj => Nat.le_of_lt (h j hj hfj), fun j hj hfj hl => ?_⟩
  by_cases e : j = i
  · exact ⟨0, by decide, by rw [updF_same, e]⟩
  · have h1 := h j (by omega) hfj
    have h2 := hl i (by omega) hf
    omega
theorem FitsJ.same (h : FitsJ b need i m f) (hm : 0 < m) (hf : fits b need i) (hl : b.sz i = b.sz (f 0)) : FitsJ b need (i + 1) (m + 1) (updF f m i) := by
  refine ⟨h.toFitsI.same hm hf hl, fun j hj hfj hl2 => ?_⟩
  by_cases e : j = i
  · exact ⟨m, by omega, by rw [updF_same, e]⟩
  · obtain ⟨t, ht, he⟩ := h.all j (by omega) hfj fun x hx => hl2 x (by omega)
    exact ⟨t, by omega, by rw [updF_ne _ _ _ (by omega)]; exact he⟩
end
section
variable {b : Bs} {need : Nat}
set_option maxRecDepth 100000 in
set_option maxHeartbeats 12800000 in
theorem rfits_any {w : World} {B N : Nat} {v : Value} (h : RowSl w B v 3 b.n (blkF b)) (hb : b.Ok N) (hn : 2 ≤ need) (hn2 : need ≤ 1000) :
    Calls Tryz.prog 65 #[v, .int .i64 need] w fun e w' => ∃ v' m f, e = .returned v' ∧ RowSl w' w.heap.size v' 1 m (natF f) ∧ FitsJ b need b.n m f ∧ Below w.heap.size w w' := by
  obtain ⟨i0, hi0, hz0, hz1, hz2⟩ := info_parts' info3
  have hcn := hb.count
  obtain ⟨g, off, cap, rfl, _, _, _, hg, hrow, hcells⟩ := blk_row h (by omega)
  have HROW := Lib.hid hrow
  have HCELL := Lib.hid hcells
  have HB := Lib.hid hb
  have HC := Lib.hid hcn
  have HG := Lib.hid hg
  have HN := Lib.hid hn
  have HN2 := Lib.hid hn2
  have d1 : ¬ (need : Int) < 2 := by omega
  clear h hb hcn hrow hcells hg hn hn2
  go_enter Tryz.func65, Tryz.ntmps65
  go_wp2_with fail
  go_loopw [12, 5] (fun ix s wr => ∃ (i m : Nat) (f : Nat → Nat), i ≤ b.n ∧ ix = .int .i64 i ∧ wr.ownsRow w.heap.size 3 1 s m (flatF 1 (natF f) m) ∧ (m = 0 → s = .slice none 0 0) ∧ FitsJ b need i m f ∧ Below w.heap.size w wr) (fun ix _ _ => b.n - (intOf ix).toNat)
  case atStart => exact ⟨0, 0, fun _ => 0, Nat.zero_le _, rfl, World.ownsRow_nil _ _ _ _, fun _ => rfl, ⟨⟨fun t h => by omega, fun _ j h => by omega, Nat.le_refl _⟩, fun j h => by omega⟩, Below.refl _ _⟩
  case round =>
    obtain ⟨i, m, f, hi, rfl, ho, hz, hf, hbr⟩ := hrel
    have HF := Lib.hid hf
    have HO := Lib.hid ho
    have HZ := Lib.hid hz
    have HBR := Lib.hid hbr
    by_cases hlt : i < b.n
    · have hltz : (i : Int) < (b.n : Int) := by omega
      have i0' : (0 : Int) ≤ (i : Int) := Int.natCast_nonneg i
      have wi : IntKind.i64.wrap ((i : Int) + 1) = (i : Int) + 1 := by have := HC.out; rw [IntKind.wrap_i64]; omega
      have hr := HROW.out i hlt
      rw [← obj_below hbr HG.out] at hr
      have HLT := Lib.hid hlt
      have HM := Lib.hid (show m ≤ 256 ∧ i < 256 by have := hf.le; have := HC.out; omega)
      obtain ⟨a, ha⟩ : ∃ a, b.at i = a := ⟨_, rfl⟩
      obtain ⟨s, hs⟩ : ∃ s, b.sz i = s := ⟨_, rfl⟩
      obtain ⟨u, hu⟩ : ∃ u, b.us i = u := ⟨_, rfl⟩
      rw [ha, hs, hu] at hr
      have HS := Lib.hid hs
      have HU := Lib.hid hu
      cases u
      · by_cases hsn : s < need
        · have dz : (s : Int) < (need : Int) := by omega
          have hnf : ¬ fits b need i := fun h => by unfold fits at h; omega
          have HNF := Lib.hid hnf
          clear hi hlt ho hz hf hbr ha hs hu hnf hsn
          go_wp2_with fail
          exact ⟨⟨i + 1, m, f, HLT.out, by simp, HO.out.alloc _, HZ.out, HF.out.skip HNF.out, HBR.out.alloc HBR.out.size _⟩, by have := HLT.out; simp only [intOf]; omega⟩
        · have dz : ¬ (s : Int) < (need : Int) := by omega
          have HFI : Hid (fits b need i) := Lib.hid ⟨hu, by omega⟩
          by_cases hm0 : m = 0
          · subst hm0
            have hv := hz rfl
            subst hv
            clear hi hlt ho hz hf hbr ha hs hu hsn
            have HSZ : Hid (w.heap.size ≤ (wr.alloc (.cells #[.int .i64 a, .int .i64 s, .bool false] 45)).heap.size) := Lib.hid (by have := HBR.out.size; simp; omega)
            have HBA : Hid (Below w.heap.size w (wr.alloc (.cells #[.int .i64 a, .int .i64 s, .bool false] 45))) := Lib.hid (HBR.out.alloc HBR.out.size _)
            have hq := newA wr (.cells #[.int .i64 a, .int .i64 s, .bool false] 45)
            have hql := lt_of_obj hq
            go_wp2_with fail
            generalize wr.alloc (.cells #[.int .i64 a, .int .i64 s, .bool false] 45) = w2 at HSZ HBA hq hql ⊢
            go_quiet (fail)
            have HB3 : Hid (Below w.heap.size w (w2.drewN nq)) := Lib.hid ⟨HBA.out.os, HBA.out.tape, HBA.out.output, HBA.out.size, HBA.out.block⟩
            have hq3 : obj (w2.drewN nq) wr.heap.size = some (.cells #[.int .i64 a, .int .i64 s, .bool false] 45 (0, 0)) := hq
            have hql3 : wr.heap.size < (w2.drewN nq).heap.size := hql
            generalize w2.drewN nq = w3 at HB3 hq3 hql3 ⊢
            clear hq hql HSZ HBA
            go_wp2_with fail
            go_quiet (fail)
            have HB4 : Hid (Below w.heap.size w (w3.drewN nq)) := Lib.hid ⟨HB3.out.os, HB3.out.tape, HB3.out.output, HB3.out.size, HB3.out.block⟩
            generalize w3.drewN nq = w4 at HB4 ⊢
            clear hq3 hql3 HB3
            go_wp2_with (at_builtin; refine wpList_append_lies _ rfl (.tmp 55) (.tmp 57) 53 rfl w.heap.size 3 i0 _ 1 8 Tryz.underlying53 hi0 hz0 hz1 hz2 rfl (by decide) _ 0 [] rfl (World.ownsRow_nil _ _ _ _) ⟨w4.heap.size, 0, none⟩ 1 1 [.int .i64 i] rfl rfl (news_new _ _ _) (by simp [Value.oneCell']) (by decide) (by unfold maxLen; omega) (by omega) (by have := HB4.out.size; simp; omega) (w4.heap.size + 1) (by simp) ?_; intro gA capA wA hownA hgrowA hatA hltA)
            exact ⟨⟨i + 1, 1, updF f 0 i, HLT.out, by simp, by rw [flat_one] at hownA; exact hownA, fun e => (by omega), FitsJ.one HFI.out (fun j hj hfj => absurd hfj (HF.out.none rfl j hj)), below_own (size := 1) HB4.out HB4.out.size (World.ownsRow_nil _ _ 3 1) hgrowA⟩, by have := HLT.out; simp only [intOf]; omega⟩
          · have hmp : 0 < m := by omega
            have hgd := (hf.good 0 hmp).1
            have hro := own_row ho (fun e => absurd e hm0)
            obtain ⟨gs, offs, caps, es, n1, n2, n3, n4, _, hcs⟩ := hro.cells hmp
            subst es
            obtain ⟨z, hzz⟩ : ∃ z, f 0 = z := ⟨_, rfl⟩
            have hc0 : cellAt (obj wr gs) offs = some (.int .i64 (z : Int)) := by
              have := hcs 0 hmp 0 (by decide)
              rw [Nat.zero_mul] at this
              simp only [Nat.add_zero] at this
              rw [← hzz]; exact this
            have hzn : z < b.n := by rw [← hzz]; omega
            have hcz := (HCELL.out z hzn).2.1
            rw [← obj_below hbr HG.out] at hcz
            obtain ⟨sz0, hsz0⟩ : ∃ sz0, b.sz z = sz0 := ⟨_, rfl⟩
            rw [hsz0] at hcz
            have z0 : (0 : Int) ≤ (z : Int) := Int.natCast_nonneg z
            have z1 : (z : Int) < (b.n : Int) := by omega
            have m0 : (m : Int) > 0 := by omega
            have m1 : ¬ (m : Int) = 0 := by omega
            have m2 : (0 : Int) < (m : Int) := by omega
            have m3 : ((m : Int) == 0) = false := by simp; omega
            have HZZ : Hid (b.sz (f 0) = sz0) := Lib.hid (by rw [hzz]; exact hsz0)
            have HMP := Lib.hid hmp
            have HSZ : Hid (w.heap.size ≤ (wr.alloc (.cells #[.int .i64 a, .int .i64 s, .bool false] 45)).heap.size) := Lib.hid (by have := HBR.out.size; simp; omega)
            have HBA : Hid (Below w.heap.size w (wr.alloc (.cells #[.int .i64 a, .int .i64 s, .bool false] 45))) := Lib.hid (HBR.out.alloc HBR.out.size _)
            have hq := newA wr (.cells #[.int .i64 a, .int .i64 s, .bool false] 45)
            have hql := lt_of_obj hq
            have hc0A : cellAt (obj (wr.alloc (.cells #[.int .i64 a, .int .i64 s, .bool false] 45)) gs) offs = some (.int .i64 (z : Int)) := by rw [obj_alloc_past wr _ gs n4]; exact hc0
            have hczA : cellAt (obj (wr.alloc (.cells #[.int .i64 a, .int .i64 s, .bool false] 45)) g) (off + z * 3 + 1) = some (.int .i64 (sz0 : Int)) := by rw [obj_alloc_past wr _ g (by have := HG.out; have := HBR.out.size; omega)]; exact hcz
            have HOA : Hid ((wr.alloc (.cells #[.int .i64 a, .int .i64 s, .bool false] 45)).ownsRow w.heap.size 3 1 (.slice (some ⟨gs, offs, none⟩) m caps) m (flatF 1 (natF f) m)) := Lib.hid (ho.alloc _)
            clear hi hlt ho hz hf hbr ha hs hu hsn hro n1 n2 n3 n4 hcs hzz hzn hsz0 hgd hcz hc0
            go_wp2_with fail
            generalize wr.alloc (.cells #[.int .i64 a, .int .i64 s, .bool false] 45) = w2 at HSZ HBA hq hql hc0A hczA HOA ⊢
            rcases Nat.lt_trichotomy s sz0 with hcmp | hcmp | hcmp
            · have dc : (s : Int) < (sz0 : Int) := by omega
              have hcmp := Lib.hid hcmp
              go_quiet (fail)
              have HB3 : Hid (Below w.heap.size w (w2.drewN nq)) := Lib.hid ⟨HBA.out.os, HBA.out.tape, HBA.out.output, HBA.out.size, HBA.out.block⟩
              have hq3 : obj (w2.drewN nq) wr.heap.size = some (.cells #[.int .i64 a, .int .i64 s, .bool false] 45 (0, 0)) := hq
              have hql3 : wr.heap.size < (w2.drewN nq).heap.size := hql
              have hc03 : cellAt (obj (w2.drewN nq) gs) offs = some (.int .i64 (z : Int)) := hc0A
              have hcz3 : cellAt (obj (w2.drewN nq) g) (off + z * 3 + 1) = some (.int .i64 (sz0 : Int)) := hczA
              have HO3 : Hid ((w2.drewN nq).ownsRow w.heap.size 3 1 (.slice (some ⟨gs, offs, none⟩) m caps) m (flatF 1 (natF f) m)) := HOA
              generalize w2.drewN nq = w3 at HB3 hq3 hql3 hc03 hcz3 HO3 ⊢
              clear hq hql HSZ HBA hc0A hczA HOA
              go_wp2_with fail
              go_quiet (fail)
              have HB4 : Hid (Below w.heap.size w (w3.drewN nq)) := Lib.hid ⟨HB3.out.os, HB3.out.tape, HB3.out.output, HB3.out.size, HB3.out.block⟩
              have HO4 : Hid ((w3.drewN nq).ownsRow w.heap.size 3 1 (.slice (some ⟨gs, offs, none⟩) m caps) m (flatF 1 (natF f) m)) := HO3
              generalize w3.drewN nq = w4 at HB4 HO4 ⊢
              clear hq3 hql3 HB3 hc03 hcz3 HO3
              go_wp2_with (at_builtin; refine wpList_append_lies _ rfl (.tmp 55) (.tmp 57) 53 rfl w.heap.size 3 i0 _ 1 8 Tryz.underlying53 hi0 hz0 hz1 hz2 rfl (by decide) _ 0 [] rfl (World.ownsRow_nil _ _ _ _) ⟨w4.heap.size, 0, none⟩ 1 1 [.int .i64 i] rfl rfl (news_new _ _ _) (by simp [Value.oneCell']) (by decide) (by unfold maxLen; omega) (by omega) (by have := HB4.out.size; simp; omega) (w4.heap.size + 1) (by simp) ?_; intro gA capA wA hownA hgrowA hatA hltA)
              refine ⟨⟨i + 1, 1, updF f 0 i, HLT.out, by simp, by rw [flat_one] at hownA; exact hownA, fun e => (by omega), FitsJ.one HFI.out (fun j hj hfj => ?_), below_own (size := 1) HB4.out HB4.out.size (World.ownsRow_nil _ _ 3 1) hgrowA⟩, by have := HLT.out; simp only [intOf]; omega⟩
              have h1 := (HF.out.good 0 HMP.out).2.2 j hj hfj
              have h2 := HZZ.out
              have h3 := HS.out
              have h4 := hcmp.out
              omega
            · have dc : ¬ (s : Int) < (sz0 : Int) := by omega
              have dc2 : ((sz0 : Int) == (s : Int)) = true := by simp; omega
              have hcmp := Lib.hid hcmp
              go_quiet (fail)
              have HB3 : Hid (Below w.heap.size w (w2.drewN nq)) := Lib.hid ⟨HBA.out.os, HBA.out.tape, HBA.out.output, HBA.out.size, HBA.out.block⟩
              have hq3 : obj (w2.drewN nq) wr.heap.size = some (.cells #[.int .i64 a, .int .i64 s, .bool false] 45 (0, 0)) := hq
              have hql3 : wr.heap.size < (w2.drewN nq).heap.size := hql
              have hc03 : cellAt (obj (w2.drewN nq) gs) offs = some (.int .i64 (z : Int)) := hc0A
              have hcz3 : cellAt (obj (w2.drewN nq) g) (off + z * 3 + 1) = some (.int .i64 (sz0 : Int)) := hczA
              have HO3 : Hid ((w2.drewN nq).ownsRow w.heap.size 3 1 (.slice (some ⟨gs, offs, none⟩) m caps) m (flatF 1 (natF f) m)) := HOA
              generalize w2.drewN nq = w3 at HB3 hq3 hql3 hc03 hcz3 HO3 ⊢
              clear hq hql HSZ HBA hc0A hczA HOA
              go_wp2_with fail
              go_quiet (fail)
              have HB4 : Hid (Below w.heap.size w (w3.drewN nq)) := Lib.hid ⟨HB3.out.os, HB3.out.tape, HB3.out.output, HB3.out.size, HB3.out.block⟩
              have HO4 : Hid ((w3.drewN nq).ownsRow w.heap.size 3 1 (.slice (some ⟨gs, offs, none⟩) m caps) m (flatF 1 (natF f) m)) := HO3
              generalize w3.drewN nq = w4 at HB4 HO4 ⊢
              clear hq3 hql3 HB3 hc03 hcz3 HO3
              go_wp2_with (at_builtin; refine wpList_append_lies _ rfl (.tmp 55) (.tmp 57) 53 rfl w.heap.size 3 i0 _ 1 8 Tryz.underlying53 hi0 hz0 hz1 hz2 rfl (by decide) _ m _ rfl (HO4.out.alloc _) ⟨w4.heap.size, 0, none⟩ 1 1 [.int .i64 i] rfl rfl (news_new _ _ _) (by simp [Value.oneCell']) (by decide) (by have := HM.out; unfold maxLen; omega) (by have := HM.out; omega) (by have := HB4.out.size; simp; omega) (w4.heap.size + 1) (by simp) ?_; intro gA capA wA hownA hgrowA hatA hltA)
              exact ⟨⟨i + 1, m + 1, updF f m i, HLT.out, by simp, by rw [flat_app] at hownA; exact hownA, fun e => (by omega), HF.out.same HMP.out HFI.out (by rw [HZZ.out, HS.out]; exact hcmp.out), below_own HB4.out HB4.out.size HO4.out hgrowA⟩, by have := HLT.out; simp only [intOf]; omega⟩
            · have dc : ¬ (s : Int) < (sz0 : Int) := by omega
              have dc2 : ¬ (sz0 : Int) = (s : Int) := by omega
              have dn : ((sz0 : Int) == (s : Int)) = false := by simp; omega
              have hcmp := Lib.hid hcmp
              go_quiet (fail)
              have HB3 : Hid (Below w.heap.size w (w2.drewN nq)) := Lib.hid ⟨HBA.out.os, HBA.out.tape, HBA.out.output, HBA.out.size, HBA.out.block⟩
              have hq3 : obj (w2.drewN nq) wr.heap.size = some (.cells #[.int .i64 a, .int .i64 s, .bool false] 45 (0, 0)) := hq
              have hql3 : wr.heap.size < (w2.drewN nq).heap.size := hql
              have hc03 : cellAt (obj (w2.drewN nq) gs) offs = some (.int .i64 (z : Int)) := hc0A
              have hcz3 : cellAt (obj (w2.drewN nq) g) (off + z * 3 + 1) = some (.int .i64 (sz0 : Int)) := hczA
              have HO3 : Hid ((w2.drewN nq).ownsRow w.heap.size 3 1 (.slice (some ⟨gs, offs, none⟩) m caps) m (flatF 1 (natF f) m)) := HOA
              generalize w2.drewN nq = w3 at HB3 hq3 hql3 hc03 hcz3 HO3 ⊢
              clear hq hql HSZ HBA hc0A hczA HOA
              go_wp2_with fail
              go_quiet (fail)
              have HB4 : Hid (Below w.heap.size w (w3.drewN nq)) := Lib.hid ⟨HB3.out.os, HB3.out.tape, HB3.out.output, HB3.out.size, HB3.out.block⟩
              have HO4 : Hid ((w3.drewN nq).ownsRow w.heap.size 3 1 (.slice (some ⟨gs, offs, none⟩) m caps) m (flatF 1 (natF f) m)) := HO3
              generalize w3.drewN nq = w4 at HB4 HO4 ⊢
              clear hq3 hql3 HB3 hc03 hcz3 HO3
              go_wp2_with fail
              exact ⟨⟨i + 1, m, f, HLT.out, by simp, HO4.out, fun e => absurd e (by have := HMP.out; omega), HF.out.larger HMP.out (by rw [HZZ.out, HS.out]; exact hcmp.out), HB4.out⟩, by have := HLT.out; simp only [intOf]; omega⟩
      · have hnf : ¬ fits b need i := fun h => by unfold fits at h; rw [hu] at h; simp at h
        have HNF := Lib.hid hnf
        clear hi hlt ho hz hf hbr ha hs hu hnf
        go_wp2_with fail
        exact ⟨⟨i + 1, m, f, HLT.out, by simp, HO.out.alloc _, HZ.out, HF.out.skip HNF.out, HBR.out.alloc HBR.out.size _⟩, by have := HLT.out; simp only [intOf]; omega⟩
    · have e : i = b.n := by omega
      subst e
      have hltz : ¬ (b.n : Int) < (b.n : Int) := by omega
      clear hi hlt ho hz hf hbr
      go_wp2
      go_ret
      exact ⟨_, rfl, m, f, own_row HO.out HZ.out, HF.out, HBR.out⟩
end
set_option maxRecDepth 100000 in
set_option maxHeartbeats 1600000 in
theorem rapply_any {w : World} {B B2 N m a0 : Nat} {v vl : Value} {W V : Nat → Int} {a : Nat → Nat} (h : SlOf w B v 1 N (wordF W)) (hl : RowSl w B2 vl 2 m (edF a V)) (ha : ∀ j, j < m → a j = a0 + j) (h0 : 0 < N) (hb : a0 + m ≤ N) (hN : N ≤ 512) :
    Calls Tryz.prog 67 #[v, vl] w fun e w' => ∃ v', e = .returned v' ∧ RowSl w' w.heap.size v' 1 N (wordF (appl a0 V W m)) ∧ Below w.heap.size w w' := by
  obtain ⟨i0, hi0, hz0, hz1, hz2⟩ := info_parts' info25
  obtain ⟨gw, offw, capw, rfl, _, _, _, hcw⟩ := h.cells h0
  obtain ⟨ao, cap, rfl⟩ := hl.form
  have HROW : Hid (∀ i, i < m → ∃ g off, ao = some ⟨g, off, none⟩ ∧ g < w.heap.size ∧ rowAt (obj w g) (off + i * 2) 2 = some #[.int .i64 (a i), .int .u64 (V i)]) := Lib.hid (fun i hi => by
    obtain ⟨g, off, cap2, e, _, _, _, hg, hrow, _⟩ := ed_row hl (by omega)
    have e1 : ao = some ⟨g, off, none⟩ ∧ cap = cap2 := by simpa using e
    exact ⟨g, off, e1.1, hg, hrow i hi⟩)
  have HNEW : Hid (∀ j u, (flatF 1 (wordF W) N)[j]? = some u → w.cell? ((⟨gw, offw, none⟩ : Addr).add j) = some u) := Lib.hid (fun j u hu => by
    obtain ⟨hj, rfl⟩ := flat_words_get W N j hu
    rw [addr_add, cell?_heap]
    have := hcw j hj 0 (by decide)
    rw [Nat.mul_one, Nat.add_zero] at this
    exact this)
  have HA := Lib.hid ha
  have HX := Lib.hid (And.intro h0 (And.intro hb hN))
  have hN2 := hN
  clear h hl ha hb hN hcw
  go_enter Tryz.func67, Tryz.ntmps67
  have A4 : (flatF 1 (wordF W) N).length = N * 1 := by rw [flatF_len]
  have A8 : 0 + N ≤ maxLen := by unfold maxLen; omega
  have A9 : (0 + N) * 8 ≤ 140737488355328 := by omega
  go_wp2_with (at_builtin; refine wpList_append_lies w rfl (Operand.const (Value.slice none 0 0)) (Operand.tmp 8) 54 rfl w.heap.size 25 i0 (Value.int .u64 0) 1 8 Tryz.underlying54 hi0 hz0 hz1 hz2 rfl (by decide) (Value.slice none 0 0) 0 [] rfl (World.ownsRow_nil _ _ _ _) ⟨gw, offw, none⟩ N capw (flatF 1 (wordF W) N) rfl A4 HNEW.out (flat_words_one W N) h0 A8 A9 (Nat.le_refl _) w.heap.size rfl ?_; intro gA capA wA hownA hgrowA hatA hltA)
  clear A4 A8 A9
  rw [Nat.zero_add, List.nil_append] at hownA
  have HO := Lib.hid hownA
  have HB1 : Hid (Below w.heap.size w wA) := Lib.hid ((Below.refl _ _).grown hgrowA (Nat.le_refl _) (fun _ h => by cases h))
  have HG1 := Lib.hid (hownA.lt gA rfl).1
  clear hownA hgrowA hatA hltA hN2
  go_loopw [12] (fun ix wr => ∃ i : Nat, i ≤ m ∧ ix = .int .i64 i ∧ wr.ownsRow w.heap.size 25 1 (.slice (some ⟨gA, 0, none⟩) N capA) N (flatF 1 (wordF (appl a0 V W i)) N) ∧ Below w.heap.size w wr) (fun ix _ => m - (intOf ix).toNat)
  case atStart => exact ⟨0, Nat.zero_le _, rfl, by rw [flatF_congr (G := wordF W) (fun j _ t _ => by show Value.int .u64 _ = Value.int .u64 _; unfold appl; rw [if_neg (by omega)])]; exact HO.out, HB1.out⟩
  case round =>
    obtain ⟨i, hi, rfl, ho, hbr⟩ := hrel
    have HBR := Lib.hid hbr
    by_cases hlt : i < m
    · have hltz : (i : Int) < (m : Int) := by omega
      have i0' : (0 : Int) ≤ (i : Int) := Int.natCast_nonneg i
      have hx := HX.out
      have wi : IntKind.i64.wrap ((i : Int) + 1) = (i : Int) + 1 := by rw [IntKind.wrap_i64]; omega
      obtain ⟨g, off, rfl, hg, hr⟩ := HROW.out i hlt
      rw [← obj_below hbr hg, HA.out i hlt] at hr
      have hgw : g < wr.heap.size := by have := hbr.size; omega
      obtain ⟨p, hp⟩ : ∃ p, a0 + i = p := ⟨_, rfl⟩
      rw [hp] at hr
      obtain ⟨x, hxv⟩ : ∃ x, V i = x := ⟨_, rfl⟩
      rw [hxv] at hr
      have p0 : (p : Int) ≥ 0 := by omega
      have p1 : (0 : Int) ≤ (p : Int) := by omega
      have p2 : (p : Int) < (N : Int) := by omega
      have hoA := ho.alloc (.cells #[.int .i64 p, .int .u64 x] 147)
      have hcl := hoA.cellAt p (by omega)
      have h1 := flatF_get 1 (wordF (appl a0 V W i)) N p 0 (by omega) (by decide)
      rw [Nat.mul_one, Nat.add_zero] at h1
      rw [h1, cell?_heap] at hcl
      have hfz := hoA.frozenAt p
      rw [frozen?_heap] at hfz
      have hst := (World.ownsRow.stored hoA p (.int .u64 x)).1
      rw [flat_words_set] at hst
      have hF : flatF 1 (wordF (updF (appl a0 V W i) p x)) N = flatF 1 (wordF (appl a0 V W (i + 1))) N := flatF_congr fun j _ t _ => by
        show Value.int .u64 (updF (appl a0 V W i) p x j) = Value.int .u64 (appl a0 V W (i + 1) j)
        rw [← hp, ← hxv, appl_succ]
      rw [hF] at hst
      have HST := Lib.hid hst
      have HBA := Lib.hid (hbr.alloc hbr.size (.cells #[.int .i64 p, .int .u64 x] 147))
      have HI := Lib.hid hlt
      have hgl := lt_of_cell hcl
      have hne : gA ≠ wr.heap.size := by have := (ho.lt gA rfl).2; omega
      have hql : obj (wr.alloc (.cells #[.int .i64 p, .int .u64 x] 147)) wr.heap.size = some (.cells #[.int .i64 p, .int .u64 x] 147 (0, 0)) := newA _ _
      have hqs := lt_of_obj hql
      generalize hw0 : wordF (appl a0 V W i) p 0 = w0 at hcl
      clear hg hi hlt ho hbr hx hp hxv hoA h1 hst hF HBR hw0
      go_wp2_with fail
      exact ⟨⟨i + 1, HI.out, by simp, HST.out, HBA.out.setCell HG1.out _⟩, by have := HI.out; simp only [intOf]; omega⟩
    · have e : i = m := by omega
      subst e
      have hltz : ¬ (i : Int) < (i : Int) := by omega
      have HR := Lib.hid (own_row ho (fun e => by have := HX.out; omega))
      clear hi hlt ho hbr
      go_wp2
      go_ret
      exact ⟨_, rfl, HR.out, HBR.out⟩
end Go.Proofs.YtphmfaddgpjndaaGreat

/- Appends of rows of any length in regions that draw their order; the reference model: Carved. -/
namespace Go.Proofs.YtphmfaddgpjndaaGreat
open Go.ChangeShapes Go.WideShapes Go.RowKit Go.Maps

section
variable {P : Program} (w : World)
/-- what is owned has the form of a slice -/
theorem owns_form {base : Nat} {e : TypeId} {size : Nat} {v : Value} {n : Nat} {xs : List Value} (h : w.ownsRow base e size v n xs) : ∃ ao cap, v = .slice ao n cap := by
  rcases h.2 with ⟨rfl, rfl⟩ | ⟨g, cap, cur, rfl, _⟩
  · exact ⟨none, 0, rfl⟩
  · exact ⟨_, _, rfl⟩
/-- append of a row of any length, none too, at an operation -/
theorem wp_append_row {o : Oper} {a : Act} {K : Act → World → Prop} {Q : Exit → Act → World → Prop} (s x : Operand) (t : TypeId)
    (ho : o.op = .call { callee := .builtin .append, args := #[s, x], argTypes := #[t, t] })
    (base : Nat) (e : TypeId) (i : TypeInfo) (z : Value) (size bytes : Nat) (ht : P.underlying t = some (.slice e)) (hi : P.info? e = some i) (hz : i.zero = some z)
    (hsize : i.size = size) (hby : i.bytes = bytes) (hzs : z.cells.size = size) (hsz : 0 < size)
    (v : Value) (n : Nat) (xs : List Value) (hs : a.eval s = v) (hown : w.ownsRow base e size v n xs)
    (ad : Addr) (m c : Nat) (news : List Value) (hx : a.eval x = .slice (some ad) m c) (hl : news.length = m * size) (hnews : ∀ j u, news[j]? = some u → w.cell? (ad.add j) = some u) (h1 : ∀ u ∈ news, u.oneCell' = true)
    (N : Nat) (hN : n + m = N) (h63 : N ≤ maxLen) (hbytes : N * bytes ≤ 140737488355328) (hbase : base ≤ w.heap.size) (H : Nat) (hH : w.heap.size = H)
    (h : ∀ ao cap w', w'.ownsRow base e size (.slice ao N cap) N (xs ++ news) → w.grownBy w' v.ownBlock → ((Value.slice ao N cap).ownBlock = v.ownBlock ∨ (Value.slice ao N cap).ownBlock = some H) → K (a.put o.dst (.slice ao N cap)) w') : o.wp P a w K Q := by
  subst hN
  obtain ⟨v', w', hr, h2, h3, _, h5⟩ := run_append_own_at (P := P) w base t o.type e i z size bytes ht hi hz hsize hby hzs hsz v n xs hown ad m c news hl hnews h1 h63 hbytes hbase
  obtain ⟨ao, cap, rfl⟩ := owns_form _ h2
  unfold Oper.wp execOp
  simp only [ho, resolve, invoke, builtin, Sem.run_bind, Sem.run_pure, Result.andThen_ok, List.map_toArray, List.map_cons, List.map_nil, hs, hx, hr]
  exact h ao cap w' h2 h3 (by rw [← hH]; exact h5)
/-- .. at the list of a plain region's operations -/
theorem list_append_row {ops : Array Oper} {rest : List Oper} {o : Oper} {a : Act} {Q : Exit → Act → World → Prop} (hgd : o.guard = none) (s x : Operand) (t : TypeId)
    (ho : o.op = .call { callee := .builtin .append, args := #[s, x], argTypes := #[t, t] })
    (base : Nat) (e : TypeId) (i : TypeInfo) (z : Value) (size bytes : Nat) (ht : P.underlying t = some (.slice e)) (hi : P.info? e = some i) (hz : i.zero = some z)
    (hsize : i.size = size) (hby : i.bytes = bytes) (hzs : z.cells.size = size) (hsz : 0 < size)
    (v : Value) (n : Nat) (xs : List Value) (hs : a.eval s = v) (hown : w.ownsRow base e size v n xs)
    (ad : Addr) (m c : Nat) (news : List Value) (hx : a.eval x = .slice (some ad) m c) (hl : news.length = m * size) (hnews : ∀ j u, news[j]? = some u → w.cell? (ad.add j) = some u) (h1 : ∀ u ∈ news, u.oneCell' = true)
    (N : Nat) (hN : n + m = N) (h63 : N ≤ maxLen) (hbytes : N * bytes ≤ 140737488355328) (hbase : base ≤ w.heap.size) (H : Nat) (hH : w.heap.size = H)
    (h : ∀ ao cap w', w'.ownsRow base e size (.slice ao N cap) N (xs ++ news) → w.grownBy w' v.ownBlock → ((Value.slice ao N cap).ownBlock = v.ownBlock ∨ (Value.slice ao N cap).ownBlock = some H) → wpList P ops Q rest (a.put o.dst (.slice ao N cap)) w') : wpList P ops Q (o :: rest) a w :=
  wpList_plain hgd fun _ hK => wp_append_row w s x t ho base e i z size bytes ht hi hz hsize hby hzs hsz v n xs hs hown ad m c news hx hl hnews h1 N hN h63 hbytes hbase H hH fun ao cap w' h2 h3 h4 => hK _ _ (h ao cap w' h2 h3 h4)
/-- .. at a step of a region that draws its order -/
theorem step_append_row {ops : Array Oper} {o : Oper} {a : Act} {K : Act → World → Prop} {Q : Exit → Act → World → Prop} {E : Prop} (hgd : o.guard = none) (s x : Operand) (t : TypeId)
    (ho : o.op = .call { callee := .builtin .append, args := #[s, x], argTypes := #[t, t] })
    (base : Nat) (e : TypeId) (i : TypeInfo) (z : Value) (size bytes : Nat) (ht : P.underlying t = some (.slice e)) (hi : P.info? e = some i) (hz : i.zero = some z)
    (hsize : i.size = size) (hby : i.bytes = bytes) (hzs : z.cells.size = size) (hsz : 0 < size)
    (v : Value) (n : Nat) (xs : List Value) (hs : a.eval s = v) (hown : w.ownsRow base e size v n xs)
    (ad : Addr) (m c : Nat) (news : List Value) (hx : a.eval x = .slice (some ad) m c) (hl : news.length = m * size) (hnews : ∀ j u, news[j]? = some u → w.cell? (ad.add j) = some u) (h1 : ∀ u ∈ news, u.oneCell' = true)
    (N : Nat) (hN : n + m = N) (h63 : N ≤ maxLen) (hbytes : N * bytes ≤ 140737488355328) (hbase : base ≤ w.heap.size) (H : Nat) (hH : w.heap.size = H)
    (h : ∀ ao cap w', w'.ownsRow base e size (.slice ao N cap) N (xs ++ news) → w.grownBy w' v.ownBlock → ((Value.slice ao N cap).ownBlock = v.ownBlock ∨ (Value.slice ao N cap).ownBlock = some H) → K (a.put o.dst (.slice ao N cap)) w') :
    if Region.wanted o (yielded ops a.tmps) = true then Oper.wp P o a w K Q else E := by
  have hw : Region.wanted o (yielded ops a.tmps) = true := by simp [Region.wanted, hgd]
  rw [if_pos hw]
  exact wp_append_row w s x t ho base e i z size bytes ht hi hz hsize hby hzs hsz v n xs hs hown ad m c news hx hl hnews h1 N hN h63 hbytes hbase H hH h
end

/-- rows of three cells, as what is appended -/
theorem rows3_news {w : World} {g off n : Nat} {F : Nat → Nat → Value} (h : ∀ i, i < n → ∀ t, t < 3 → cellAt (obj w g) (off + i * 3 + t) = some (F i t)) : ∀ j u, (flatF 3 F n)[j]? = some u → w.cell? ((⟨g, off, none⟩ : Addr).add j) = some u := by
  intro j u hu
  by_cases hj : j < n * 3
  · have h1 := flatF_get 3 F n (j / 3) (j % 3) (by omega) (by omega)
    rw [show j / 3 * 3 + j % 3 = j by omega, hu] at h1
    rw [addr_add, cell?_heap, h1]
    have h2 := h (j / 3) (by omega) (j % 3) (by omega)
    rwa [show off + j / 3 * 3 + j % 3 = off + j by omega] at h2
  · rw [List.getElem?_eq_none (by rw [flatF_len]; omega)] at hu
    cases hu
theorem blkF_one (b : Bs) (k n : Nat) : ∀ u ∈ flatF 3 (fun i => blkF b (k + i)) n, u.oneCell' = true := by
  intro u hu
  obtain ⟨j, hj⟩ := List.getElem?_of_mem hu
  by_cases hl : j < n * 3
  · have h1 := flatF_get 3 (fun i => blkF b (k + i)) n (j / 3) (j % 3) (by omega) (by omega)
    rw [show j / 3 * 3 + j % 3 = j by omega, hj] at h1
    obtain rfl := Option.some.inj h1
    unfold blkF
    split
    · rfl
    · split <;> rfl
  · rw [List.getElem?_eq_none (by rw [flatF_len]; omega)] at hj
    cases hj
set_option maxRecDepth 100000 in
set_option maxHeartbeats 12800000 in
theorem rcarved_any {w : World} {B L k need : Nat} {b : Bs} {v : Value} (h : RowSl w B v 3 b.n (blkF b)) (hb : b.Ok (L * 8)) (hk : k < b.n) (hu : b.us k = false) (hn : 2 ≤ need ∧ need ≤ b.sz k) :
    Calls Tryz.prog 102 #[v, .int .i64 k, .int .i64 need] w fun e w' => ∃ ao n c, e = .returned (.tuple #[.slice ao n c, .bool true]) ∧ Below w.heap.size w w' := by
  obtain ⟨i0, hi0, hz0, hz1, hz2⟩ := info_parts' info45
  have hcn := hb.count
  have hbig := hb.big
  have hsz := hb.size hk
  have hle := hb.le hk
  have htk := takes_le hn
  have KW := rsizes_any (v := v) (a := b.at) (s := b.sz) (u := b.us) (n := b.n) h (fun i hi => hb.size hi) (by rw [sumN_at, hb.sum]; omega)
  rw [sumN_at, hb.sum] at KW
  have KW := Lib.hid KW
  have KM := Lib.hid (fun w1 (hb1 : Below w.heap.size w w1) => rmayb_any (h.below hb1) hb)
  have KT := Lib.hid (fun w => rtakes_any (b.sz k) need (by omega) w)
  obtain ⟨g, off, cap, rfl, hcap, hcap2, _, hg, hrow, hcells⟩ := blk_row h (by omega)
  have HCELL : Hid (∀ i, i < b.n → ∀ t, t < 3 → cellAt (obj w g) (off + i * 3 + t) = some (blkF b i t)) := Lib.hid (by
    intro i hi t ht
    obtain ⟨g', off', cap', e, _, _, _, _, _, hc⟩ := h.cells (by omega)
    obtain ⟨⟨rfl, rfl⟩, _⟩ : (g = g' ∧ off = off') ∧ cap = cap' := by simpa using e
    exact hc i hi t ht)
  have hc := hcells k hk
  rw [hu] at hc
  obtain ⟨N, hN⟩ : ∃ N, L * 8 = N := ⟨_, rfl⟩
  rw [hN] at KW KM
  obtain ⟨z, hz⟩ : ∃ z, b.at k = z := ⟨_, rfl⟩
  obtain ⟨s, hs⟩ : ∃ s, b.sz k = s := ⟨_, rfl⟩
  rw [hz] at hc hle
  rw [hs] at hc hsz hle hn htk KT
  generalize takesN s need = t at htk KT
  have HC := Lib.hid hc
  have HG := Lib.hid hg
  have i0' : (0 : Int) ≤ (k : Int) := Int.natCast_nonneg k
  have i1 : (k : Int) < (b.n : Int) := by omega
  have i2 : ¬ (k : Int) < 0 := by omega
  have i3 : ¬ (k : Int) ≥ (b.n : Int) := by omega
  have ht0 : ((t : Int) == 0) = false := by simp; omega
  have HT := Lib.hid htk
  have HL := Lib.hid (show z + s ≤ 512 ∧ s ≤ 512 by omega)
  have HN := Lib.hid (And.intro hk (And.intro hcn (And.intro hcap hcap2)))
  clear h hb hk hu hcn hbig hsz hle htk hn hrow hcells hc hg hN hz hs hcap hcap2
  go_enter Tryz.func102, Tryz.ntmps102
  go_wp2_with fail
  refine KW.out.mono ?_
  rintro _ w1 ⟨rfl, hb1⟩
  go_wp2_with fail
  refine (KM.out w1 hb1).mono ?_
  rintro _ w2 ⟨rfl, hb2⟩
  have hbb := hb1.trans (hb2.mono hb1.size)
  have hc := HC.out
  rw [← obj_below hbb HG.out] at hc
  obtain ⟨hc0, hc1, hc2⟩ := hc
  have HB2 := Lib.hid hbb
  have hgl : g < w2.heap.size := by have := hbb.size; have := HG.out; omega
  clear hb1 hb2 KW KM hbb
  go_wp2_with fail
  refine (KT.out _).mono ?_
  rintro _ _ ⟨rfl, rfl⟩
  go_wp2_with fail
  refine (KT.out _).mono ?_
  rintro _ _ ⟨rfl, rfl⟩
  go_wp2_with fail
  have HCW : Hid (∀ i, i < b.n → ∀ t, t < 3 → cellAt (obj w2 g) (off + i * 3 + t) = some (blkF b i t)) := Lib.hid (fun i hi t ht => by rw [obj_below HB2.out HG.out]; exact HCELL.out i hi t ht)
  have A4 : (flatF 3 (blkF b) k).length = k * 3 := by rw [flatF_len]
  have A1 : ∀ u ∈ flatF 3 (blkF b) k, u.oneCell' = true := by have := blkF_one b 0 k; simpa using this
  have hqn := newA w2 (.cells #[.int .i64 z, .int .i64 t, .bool true] 45)
  have hga : obj (w2.alloc (.cells #[.int .i64 z, .int .i64 t, .bool true] 45)) g = obj w2 g := obj_alloc_past w2 _ g hgl
  have A5 : ∀ j u, (flatF 3 (blkF b) k)[j]? = some u → ((w2.alloc (.cells #[.int .i64 z, .int .i64 t, .bool true] 45)).drew).cell? ((⟨g, off, none⟩ : Addr).add j) = some u := rows3_news (fun i hi t' ht => by rw [obj_drew, hga]; exact HCW.out i (by have := HN.out.1; omega) t' ht)
  have hn := HN.out
  have A8 : k ≤ maxLen := by unfold maxLen; omega
  have A9 : k * 24 ≤ 140737488355328 := by omega
  have A10 : w.heap.size ≤ (w2.alloc (.cells #[.int .i64 z, .int .i64 t, .bool true] 45)).drew.heap.size := by have := HB2.out.size; simp; omega
  have A11 : (w2.alloc (.cells #[.int .i64 z, .int .i64 t, .bool true] 45)).drew.heap.size = w2.heap.size + 1 := by simp
  have A5a : ∀ j u, (flatF 3 (blkF b) k)[j]? = some u → (w2.drew).cell? ((⟨g, off, none⟩ : Addr).add j) = some u := rows3_news (fun i hi t' ht => HCW.out i (by have := HN.out.1; omega) t' ht)
  have A10a : w.heap.size ≤ w2.drew.heap.size := HB2.out.size
  have ik1 : (k : Int) ≤ (b.n : Int) := by omega
  have ik2 : (k : Int) ≤ (cap : Int) := by omega
  have ik3 : k ≤ cap := by omega
  have B1 : ∀ u ∈ [Value.int .i64 (z : Int), .int .i64 (t : Int), .bool true], u.oneCell' = true := by simp [Value.oneCell']
  have B8 : k + 1 ≤ maxLen := by unfold maxLen; omega
  have B9 : (k + 1) * 24 ≤ 140737488355328 := by omega
  have nn : (Value.slice none 0 0).ownBlock ≠ some g := by simp [Value.ownBlock]
  have gd : g < w2.drew.heap.size := hgl
  have gd2 : g < (w2.alloc (.cells #[.int .i64 z, .int .i64 t, .bool true] 45)).drew.heap.size := by simp; omega
  have hgw := HG.out
  go_region_held3 (fun w' => cellAt (obj w' g) (off + k * 3) = some (.int .i64 z))
      (first
        | exact hc0
        | (rw [obj_drew, hga]; exact hc0)
        | exact hS1
        | (rw [obj_alloc_past wA _ g gA1]; exact hS1)
        | exact hS2)
      (first
        | (refine step_append_row w2.drew (by rfl) (Operand.const (Value.slice none 0 0)) (Operand.tmp 51) 42 (by rfl) w.heap.size 45 i0 (Value.agg #[.int .i64 0, .int .i64 0, .bool false]) 3 24 Tryz.underlying42 hi0 hz0 hz1 hz2 rfl (by decide) (Value.slice none 0 0) 0 [] (by rfl) (World.ownsRow_nil _ _ _ _) ⟨g, off, none⟩ k cap (flatF 3 (blkF b) k) (by rfl) A4 A5a A1 k (Nat.zero_add k) A8 A9 A10a w2.heap.size (by rfl) ?_
           intro aoA capA wA hownA hgrowA hatA
           rw [List.nil_append] at hownA
           have gA1 : g < wA.heap.size := Nat.lt_of_lt_of_le gd hgrowA.size
           have hS1 : cellAt (obj wA g) (off + k * 3) = some (.int .i64 z) := (congrArg (fun o => cellAt o (off + k * 3)) (grow_obj hgrowA gd nn)).trans hc0
           have hBA : Below w.heap.size w wA := HB2.out.drew.grown hgrowA HB2.out.size (fun _ h => by cases h))
        | (refine step_append_row (w2.alloc (.cells #[.int .i64 z, .int .i64 t, .bool true] 45)).drew (by rfl) (Operand.const (Value.slice none 0 0)) (Operand.tmp 51) 42 (by rfl) w.heap.size 45 i0 (Value.agg #[.int .i64 0, .int .i64 0, .bool false]) 3 24 Tryz.underlying42 hi0 hz0 hz1 hz2 rfl (by decide) (Value.slice none 0 0) 0 [] (by rfl) (World.ownsRow_nil _ _ _ _) ⟨g, off, none⟩ k cap (flatF 3 (blkF b) k) (by rfl) A4 A5 A1 k (Nat.zero_add k) A8 A9 A10 (w2.heap.size + 1) A11 ?_
           intro aoA capA wA hownA hgrowA hatA
           rw [List.nil_append] at hownA
           have gA1 : g < wA.heap.size := Nat.lt_of_lt_of_le gd2 hgrowA.size
           have hS1 : cellAt (obj wA g) (off + k * 3) = some (.int .i64 z) := (congrArg (fun o => cellAt o (off + k * 3)) ((grow_obj hgrowA gd2 nn).trans hga)).trans hc0
           have hBA : Below w.heap.size w wA := (HB2.out.alloc HB2.out.size (.cells #[.int .i64 z, .int .i64 t, .bool true] 45)).drew.grown hgrowA (by have := HB2.out.size; simp; omega) (fun _ h => by cases h))
        | (have B10 : w.heap.size ≤ (wA.alloc (.cells #[.int .i64 z, .int .i64 t, .bool true] 45)).heap.size := by have := hBA.size; simp; omega
           have B11 : (wA.alloc (.cells #[.int .i64 z, .int .i64 t, .bool true] 45)).heap.size = wA.heap.size + 1 := by simp
           refine step_append_row (wA.alloc (.cells #[.int .i64 z, .int .i64 t, .bool true] 45)) (by rfl) (Operand.tmp 52) (Operand.tmp 60) 42 (by rfl) w.heap.size 45 i0 (Value.agg #[.int .i64 0, .int .i64 0, .bool false]) 3 24 Tryz.underlying42 hi0 hz0 hz1 hz2 rfl (by decide) (Value.slice aoA k capA) k (flatF 3 (blkF b) k) (by rfl) (hownA.alloc _) ⟨wA.heap.size, 0, none⟩ 1 1 [.int .i64 z, .int .i64 t, .bool true] (by rfl) (by rfl) (news_new _ _ _) B1 (k + 1) rfl B8 B9 B10 (wA.heap.size + 1) B11 ?_
           intro aoB capB wB hownB hgrowB hatB
           have hS2 : cellAt (obj wB g) (off + k * 3) = some (.int .i64 z) := (congrArg (fun o => cellAt o (off + k * 3)) ((grow_obj hgrowB (by simp; omega) (fun e => by have := (hownA.lt g e).1; omega)).trans (obj_alloc_past wA _ g gA1))).trans hS1
           have hBB : Below w.heap.size w wB := (hBA.alloc hBA.size (.cells #[.int .i64 z, .int .i64 t, .bool true] 45)).grown hgrowB B10 (fun j e => (hownA.lt j e).1))
        | (have B5 : ∀ j u, [Value.int .i64 (z : Int), .int .i64 (t : Int), .bool true][j]? = some u → wA.cell? ((⟨w2.heap.size, 0, none⟩ : Addr).add j) = some u := World.news_of_block (cs := #[.int .i64 z, .int .i64 t, .bool true]) (t := 45) (fr := (0, 0)) ((grow_obj hgrowA (by simp) (by simp [Value.ownBlock])).trans hqn)
           refine step_append_row wA (by rfl) (Operand.tmp 52) (Operand.tmp 60) 42 (by rfl) w.heap.size 45 i0 (Value.agg #[.int .i64 0, .int .i64 0, .bool false]) 3 24 Tryz.underlying42 hi0 hz0 hz1 hz2 rfl (by decide) (Value.slice aoA k capA) k (flatF 3 (blkF b) k) (by rfl) hownA ⟨w2.heap.size, 0, none⟩ 1 1 [.int .i64 z, .int .i64 t, .bool true] (by rfl) (by rfl) B5 B1 (k + 1) rfl B8 B9 hBA.size wA.heap.size (by rfl) ?_
           intro aoB capB wB hownB hgrowB hatB
           have hS2 : cellAt (obj wB g) (off + k * 3) = some (.int .i64 z) := (congrArg (fun o => cellAt o (off + k * 3)) (grow_obj hgrowB gA1 (fun e => by have := (hownA.lt g e).1; omega))).trans hS1
           have hBB : Below w.heap.size w wB := hBA.grown hgrowB hBA.size (fun j e => (hownA.lt j e).1)))
  all_goals
      have HBB := Lib.hid hBB
      have hc := HC.out
      rw [← obj_below hBB HG.out] at hc
      have hgB : g < wB.heap.size := by have := hBB.size; omega
      obtain ⟨hd0, hd1, hd2⟩ := hc
      have HOB := Lib.hid hownB
      clear hBB hBA hownA hgrowA hatA hownB hgrowB hatB hc0 hc1 hc2 A1 A4 A5 A5a A8 A9 A10 A10a A11 B1 B8 B9 gd gd2 hga hqn hgl nn hn
      have hHN := HN.out
      have hT := HT.out
      have hL := HL.out
      rcases Nat.lt_or_ge t s with hts | hts
      · have d1 : (t : Int) < (s : Int) := by omega
        obtain ⟨zt, hzt⟩ : ∃ x, z + t = x := ⟨_, rfl⟩
        obtain ⟨st, hst⟩ : ∃ x, s - t = x := ⟨_, rfl⟩
        have hob := HOB.out
        have C1 : ∀ u ∈ [Value.int .i64 (zt : Int), .int .i64 (st : Int), .bool false], u.oneCell' = true := by simp [Value.oneCell']
        have C8 : k + 2 ≤ maxLen := by unfold maxLen; omega
        have C9 : (k + 2) * 24 ≤ 140737488355328 := by omega
        have C10 : w.heap.size ≤ (wB.alloc (.cells #[.int .i64 zt, .int .i64 st, .bool false] 45)).drew.heap.size := by have := HBB.out.size; simp; omega
        have C11 : (wB.alloc (.cells #[.int .i64 zt, .int .i64 st, .bool false] 45)).drew.heap.size = wB.heap.size + 1 := by simp
        have hqC : obj (wB.alloc (.cells #[.int .i64 zt, .int .i64 st, .bool false] 45)).drew wB.heap.size = some (.cells #[.int .i64 zt, .int .i64 st, .bool false] 45 (0, 0)) := by rw [obj_drew]; exact newA wB _
        have C5 : ∀ j u, [Value.int .i64 (zt : Int), .int .i64 (st : Int), .bool false][j]? = some u → (wB.alloc (.cells #[.int .i64 zt, .int .i64 st, .bool false] 45)).drew.cell? ((⟨wB.heap.size, 0, none⟩ : Addr).add j) = some u := World.news_of_block (cs := #[.int .i64 zt, .int .i64 st, .bool false]) (t := 45) (fr := (0, 0)) hqC
        have hobA := (hob.alloc (.cells #[.int .i64 zt, .int .i64 st, .bool false] 45)).drew
        have hgA2 : obj (wB.alloc (.cells #[.int .i64 zt, .int .i64 st, .bool false] 45)) g = obj wB g := obj_alloc_past wB _ g hgB
        have hne : (Value.slice aoB (k + 1) capB).ownBlock ≠ some g := fun e => by have := (hob.lt g e).1; omega
        have hgd : g < (wB.alloc (.cells #[.int .i64 zt, .int .i64 st, .bool false] 45)).drew.heap.size := by simp; omega
        have wz : IntKind.i64.wrap ((z : Int) + (t : Int)) = (zt : Int) := by rw [IntKind.wrap_i64]; omega
        have ws : IntKind.i64.wrap ((s : Int) - (t : Int)) = (st : Int) := by rw [IntKind.wrap_i64]; omega
        clear hts hHN hT hL hzt hst hgw ik1 ik2 ik3 i2 i3 ht0 hob
        go_wp2_with fail
        go_region_held3 (fun w' => cellAt (obj w' g) (off + k * 3) = some (.int .i64 z) ∧ cellAt (obj w' g) (off + k * 3 + 1) = some (.int .i64 s))
          (first
            | exact ⟨hd0, hd1⟩
            | (rw [obj_drew, hgA2]; exact ⟨hd0, hd1⟩)
            | exact hS3)
          ((refine step_append_row (wB.alloc (.cells #[.int .i64 zt, .int .i64 st, .bool false] 45)).drew (by rfl) (Operand.tmp 69) (Operand.tmp 85) 42 (by rfl) w.heap.size 45 i0 (Value.agg #[.int .i64 0, .int .i64 0, .bool false]) 3 24 Tryz.underlying42 hi0 hz0 hz1 hz2 rfl (by decide) (Value.slice aoB (k + 1) capB) (k + 1) (flatF 3 (blkF b) k ++ [.int .i64 z, .int .i64 t, .bool true]) (by rfl) hobA ⟨wB.heap.size, 0, none⟩ 1 1 [.int .i64 zt, .int .i64 st, .bool false] (by rfl) (by rfl) C5 C1 (k + 2) rfl C8 C9 C10 (wB.heap.size + 1) C11 ?_
            intro aoC capC wC hownC hgrowC hatC
            have hgC : obj wC g = obj wB g := (grow_obj hgrowC hgd hne).trans hgA2
            have hS3 : cellAt (obj wC g) (off + k * 3) = some (.int .i64 z) ∧ cellAt (obj wC g) (off + k * 3 + 1) = some (.int .i64 s) := by rw [hgC]; exact ⟨hd0, hd1⟩))
        clear hS3 C1 C5 C8 C9 C10 C11 hqC hobA hgA2 hne hgC hatC
        have hHN := HN.out
        have hown := hownC
        have hBW : Below w.heap.size w wC := ((HBB.out.alloc HBB.out.size _).drew).grown hgrowC (by have := HBB.out.size; simp; omega) (fun j e => (HOB.out.lt j e).1)
        obtain ⟨n0, hn0⟩ : ∃ x, k + 2 = x := ⟨_, rfl⟩
        obtain ⟨N0, hN0⟩ : ∃ x, n0 + (b.n - (k + 1)) = x := ⟨_, rfl⟩
        rw [hn0] at hown ⊢
        obtain ⟨k1, hk1⟩ : ∃ x, k + 1 = x := ⟨_, rfl⟩
        rw [hk1] at hN0
        have wk1 : IntKind.i64.wrap ((k : Int) + 1) = (k1 : Int) := by rw [IntKind.wrap_i64]; omega
        have e0 : (0 : Int) ≤ (k1 : Int) := Int.natCast_nonneg k1
        have e1 : (k1 : Int) ≤ (b.n : Int) := by omega
        have e2 : (b.n : Int) ≤ (cap : Int) := by omega
        have e3 : k1 ≤ cap := by omega
        have e4 : k1 ≤ b.n := by omega
        have E4 : (flatF 3 (fun i => blkF b (k1 + i)) (b.n - k1)).length = (b.n - k1) * 3 := by rw [flatF_len]
        have E1 := blkF_one b k1 (b.n - k1)
        have hcw : ∀ i, i < b.n - k1 → ∀ t, t < 3 → cellAt (obj wC g) (off + k1 * 3 + i * 3 + t) = some (blkF b (k1 + i) t) := fun i hi t ht => by
          rw [obj_below hBW HG.out, show off + k1 * 3 + i * 3 + t = off + (k1 + i) * 3 + t by omega]
          exact HCELL.out (k1 + i) (by omega) t ht
        have E5 := rows3_news hcw
        have E8 : N0 ≤ maxLen := by unfold maxLen; omega
        have E9 : N0 * 24 ≤ 140737488355328 := by omega
        have HBW := Lib.hid hBW
        clear hHN hcw hk1 hn0
        rcases Nat.lt_or_ge k1 cap with hcf | hcf
        · have hcf2 : ¬ cap = k1 := by omega
          go_wp2_with (at_builtin; refine list_append_row wC rfl (.tmp 87) (.tmp 91) 42 rfl w.heap.size 45 i0 (Value.agg #[.int .i64 0, .int .i64 0, .bool false]) 3 24 Tryz.underlying42 hi0 hz0 hz1 hz2 rfl (by decide) (.slice aoC n0 capC) n0 _ rfl hown ⟨g, off + k1 * 3, none⟩ (b.n - k1) (cap - k1) _ rfl E4 E5 E1 N0 hN0 E8 E9 HBW.out.size wC.heap.size rfl ?_; intro aoD capD wD hownD hgrowD hatD)
          go_ret2
          first | exact ⟨⟨_, _, _, rfl⟩, HBW.out.grown hgrowD HBW.out.size (fun j e => (hown.lt j e).1)⟩ | exact ⟨_, _, _, rfl, HBW.out.grown hgrowD HBW.out.size (fun j e => (hown.lt j e).1)⟩
        · obtain rfl : cap = k1 := by omega
          have hbn : b.n = cap := by omega
          rw [hbn] at E4 E1 E5
          rw [Nat.sub_self] at E4 E1 E5
          have hN0' : n0 + 0 = N0 := by omega
          clear hN0 E4 E1 E5
          go_wp2_with (at_builtin; refine list_append_row wC rfl (.tmp 87) (.tmp 91) 42 rfl w.heap.size 45 i0 (Value.agg #[.int .i64 0, .int .i64 0, .bool false]) 3 24 Tryz.underlying42 hi0 hz0 hz1 hz2 rfl (by decide) (.slice aoC n0 capC) n0 _ rfl hown ⟨g, off, none⟩ 0 0 [] rfl rfl (fun _ _ h => by simp at h) (fun _ h => by simp at h) N0 hN0' E8 E9 HBW.out.size wC.heap.size rfl ?_; intro aoD capD wD hownD hgrowD hatD)
          go_ret2
          first | exact ⟨⟨_, _, _, rfl⟩, HBW.out.grown hgrowD HBW.out.size (fun j e => (hown.lt j e).1)⟩ | exact ⟨_, _, _, rfl, HBW.out.grown hgrowD HBW.out.size (fun j e => (hown.lt j e).1)⟩
      · have d1 : ¬ (t : Int) < (s : Int) := by omega
        clear hHN hT hL hgw ik1 ik2 ik3 i2 i3 ht0 hts
        have hHN := HN.out
        have hown := HOB.out
        have hBW : Below w.heap.size w wB := HBB.out
        obtain ⟨n0, hn0⟩ : ∃ x, k + 1 = x := ⟨_, rfl⟩
        obtain ⟨N0, hN0⟩ : ∃ x, n0 + (b.n - (k + 1)) = x := ⟨_, rfl⟩
        rw [hn0] at hown ⊢
        obtain ⟨k1, hk1⟩ : ∃ x, k + 1 = x := ⟨_, rfl⟩
        rw [hk1] at hN0
        have wk1 : IntKind.i64.wrap ((k : Int) + 1) = (k1 : Int) := by rw [IntKind.wrap_i64]; omega
        have e0 : (0 : Int) ≤ (k1 : Int) := Int.natCast_nonneg k1
        have e1 : (k1 : Int) ≤ (b.n : Int) := by omega
        have e2 : (b.n : Int) ≤ (cap : Int) := by omega
        have e3 : k1 ≤ cap := by omega
        have e4 : k1 ≤ b.n := by omega
        have E4 : (flatF 3 (fun i => blkF b (k1 + i)) (b.n - k1)).length = (b.n - k1) * 3 := by rw [flatF_len]
        have E1 := blkF_one b k1 (b.n - k1)
        have hcw : ∀ i, i < b.n - k1 → ∀ t, t < 3 → cellAt (obj wB g) (off + k1 * 3 + i * 3 + t) = some (blkF b (k1 + i) t) := fun i hi t ht => by
          rw [obj_below hBW HG.out, show off + k1 * 3 + i * 3 + t = off + (k1 + i) * 3 + t by omega]
          exact HCELL.out (k1 + i) (by omega) t ht
        have E5 := rows3_news hcw
        have E8 : N0 ≤ maxLen := by unfold maxLen; omega
        have E9 : N0 * 24 ≤ 140737488355328 := by omega
        have HBW := Lib.hid hBW
        clear hHN hcw hk1 hn0
        rcases Nat.lt_or_ge k1 cap with hcf | hcf
        · have hcf2 : ¬ cap = k1 := by omega
          go_wp2_with (at_builtin; refine list_append_row wB rfl (.tmp 87) (.tmp 91) 42 rfl w.heap.size 45 i0 (Value.agg #[.int .i64 0, .int .i64 0, .bool false]) 3 24 Tryz.underlying42 hi0 hz0 hz1 hz2 rfl (by decide) (.slice aoB n0 capB) n0 _ rfl hown ⟨g, off + k1 * 3, none⟩ (b.n - k1) (cap - k1) _ rfl E4 E5 E1 N0 hN0 E8 E9 HBW.out.size wB.heap.size rfl ?_; intro aoD capD wD hownD hgrowD hatD)
          go_ret2
          first | exact ⟨⟨_, _, _, rfl⟩, HBW.out.grown hgrowD HBW.out.size (fun j e => (hown.lt j e).1)⟩ | exact ⟨_, _, _, rfl, HBW.out.grown hgrowD HBW.out.size (fun j e => (hown.lt j e).1)⟩
        · obtain rfl : cap = k1 := by omega
          have hbn : b.n = cap := by omega
          rw [hbn] at E4 E1 E5
          rw [Nat.sub_self] at E4 E1 E5
          have hN0' : n0 + 0 = N0 := by omega
          clear hN0 E4 E1 E5
          go_wp2_with (at_builtin; refine list_append_row wB rfl (.tmp 87) (.tmp 91) 42 rfl w.heap.size 45 i0 (Value.agg #[.int .i64 0, .int .i64 0, .bool false]) 3 24 Tryz.underlying42 hi0 hz0 hz1 hz2 rfl (by decide) (.slice aoB n0 capB) n0 _ rfl hown ⟨g, off, none⟩ 0 0 [] rfl rfl (fun _ _ h => by simp at h) (fun _ h => by simp at h) N0 hN0' E8 E9 HBW.out.size wB.heap.size rfl ?_; intro aoD capD wD hownD hgrowD hatD)
          go_ret2
          first | exact ⟨⟨_, _, _, rfl⟩, HBW.out.grown hgrowD HBW.out.size (fun j e => (hown.lt j e).1)⟩ | exact ⟨_, _, _, rfl, HBW.out.grown hgrowD HBW.out.size (fun j e => (hown.lt j e).1)⟩
end Go.Proofs.YtphmfaddgpjndaaGreat

/- The reference model: CarveEdits. -/
namespace Go.Proofs.YtphmfaddgpjndaaGreat
open Go.ChangeShapes Go.WideShapes Go.RowKit Go.Maps

set_option maxRecDepth 100000 in
set_option maxHeartbeats 6400000 in
theorem rcedits_any {w : World} {B L k need : Nat} {b : Bs} {v : Value} (h : RowSl w B v 3 b.n (blkF b)) (hb : b.Ok (L * 8)) (hk : k < b.n) (hu : b.us k = false) (hn : 2 ≤ need ∧ need ≤ b.sz k) :
    Calls Tryz.prog 68 #[v, .int .i64 k, .int .i64 need] w fun e w' => ∃ v', e = .returned v' ∧
      RowSl w' w.heap.size v' 2 (carC (takesN (b.sz k) need) (takM (b.sz k) (takesN (b.sz k) need))) (edF (carA (b.at k)) (carV (b.sz k) (takesN (b.sz k) need))) ∧ Below w.heap.size w w' := by
  obtain ⟨i0, hi0, hz0, hz1, hz2⟩ := info_parts' info147
  have hcn := hb.count
  have hsz := hb.size hk
  have hle := hb.le hk
  have hbig := hb.big
  have htk := takes_le hn
  have KC := Lib.hid (rcarved_any h hb hk hu hn)
  have KT := Lib.hid (fun w => rtakes_any (b.sz k) need (by omega) w)
  obtain ⟨g, off, cap, rfl, hcap, hcap2, _, hg, hrow, hcells⟩ := blk_row h (by omega)
  have hc := hcells k hk
  rw [hu] at hc
  obtain ⟨z, hz⟩ : ∃ z, b.at k = z := ⟨_, rfl⟩
  obtain ⟨s, hs⟩ : ∃ s, b.sz k = s := ⟨_, rfl⟩
  rw [hz] at hc hle ⊢
  rw [hs] at hc hsz hle hn htk KT ⊢
  generalize takesN s need = t at htk KT ⊢
  have HT := Lib.hid (show 2 ≤ t ∧ t ≤ s ∧ (t < s → t + 2 ≤ s) ∧ z + s ≤ 512 ∧ s ≤ 512 by omega)
  have KW1 := Lib.hid (fun w => rword_any t true (by omega) w)
  obtain ⟨hd, hhd⟩ : ∃ x, hdr t true = x := ⟨_, rfl⟩
  rw [hhd] at KW1
  have HHD := Lib.hid hhd
  have HC := Lib.hid hc
  have HG := Lib.hid hg
  have i0' : (0 : Int) ≤ (k : Int) := Int.natCast_nonneg k
  have i1 : (k : Int) < (b.n : Int) := by omega
  clear h hb hk hu hcn hbig hsz hle htk hn hrow hcells hc hg hz hs hcap hcap2 hhd
  go_enter Tryz.func68, Tryz.ntmps68
  go_wp2_with fail
  refine KC.out.mono ?_
  rintro _ w1 ⟨ao0, n0, c0, rfl, hb1⟩
  have hc := HC.out
  rw [← obj_below hb1 HG.out] at hc
  obtain ⟨hc0, hc1, hc2⟩ := hc
  have hgl : g < w1.heap.size := by have := hb1.size; have := HG.out; omega
  have HB1 := Lib.hid hb1
  clear hb1 KC
  go_wp2_with fail
  refine (KT.out _).mono ?_
  rintro _ _ ⟨rfl, rfl⟩
  go_wp2_with fail
  refine wp_region_more_tail 8 (by kernel_rfl) (by kernel_rfl) (by kernel_rfl) ?_
  simp only [List.take_succ_cons, List.take_zero, List.drop_succ_cons, List.drop_zero]
  repeat (go_big_quiet_step ((go_at_call 62; exact more_call ((KW1.out _).mono (by rintro _ _ ⟨rfl, rfl⟩; exact ⟨rfl, Below.refl _ _⟩)))))
  refine wpQuiet_nil ?_
  intro _ hw'
  obtain ⟨x, hw''⟩ := hw'
  subst hw''
  have HB2 : Hid (Below w.heap.size w (more w1 x)) := Lib.hid (HB1.out.trans ((more_below w1 x).mono HB1.out.size))
  change wpList _ _ _ _ _ (more w1 x)
  generalize more w1 x = w2 at HB2 ⊢
  clear hc0 hc1 hc2 hgl KW1 KT
  go_wp2_with fail
  have HO0 : Hid ((w2.alloc (.cells #[.int .i64 z, .int .u64 hd] 147)).ownsRow w.heap.size 147 2 (.slice (some ⟨w2.heap.size, 0, none⟩) 1 1) 1 (flatF 2 (edF (carA z) (carV s t)) 1)) := Lib.hid (by
    have h1 := World.ownsRow_lit (base := w.heap.size) (e := 147) (size := 2) w2 #[.int .i64 z, .int .u64 hd] 1 HB2.out.size (by decide) rfl
    rw [flatF_succ, ed_news, ← HHD.out]
    rw [← HHD.out] at h1
    exact h1)
  have HB3 := Lib.hid (HB2.out.alloc HB2.out.size (.cells #[.int .i64 z, .int .u64 hd] 147))
  go_loopw [11, 10] (fun ks sv wi => ∃ kk : Nat, 1 ≤ kk ∧ kk ≤ t ∧ ks = .int .i64 kk ∧ wi.ownsRow w.heap.size 147 2 sv kk (flatF 2 (edF (carA z) (carV s t)) kk) ∧ Below w.heap.size w wi) (fun ks _ _ => t + 1 - (intOf ks).toNat)
  case atStart => exact ⟨1, Nat.le_refl _, by have := HT.out; omega, rfl, HO0.out, HB3.out⟩
  case round =>
    obtain ⟨kk, hk1, hk2, rfl, ho, hbr⟩ := hrel
    have hc := HC.out
    rw [← obj_below hbr HG.out] at hc
    obtain ⟨hc0, hc1, hc2⟩ := hc
    have hgl : g < wr.heap.size := by have := hbr.size; have := HG.out; omega
    clear HO0 HB3
    have HO := Lib.hid ho
    have HBR := Lib.hid hbr
    by_cases hkt : kk < t
    · have d1 : (kk : Int) < (t : Int) := by omega
      have hT := HT.out
      have wk : IntKind.i64.wrap ((kk : Int) + 1) = (kk : Int) + 1 := by rw [IntKind.wrap_i64]; omega
      obtain ⟨y, hy⟩ : ∃ y, z + kk = y := ⟨_, rfl⟩
      have wa' : IntKind.i64.wrap ((z : Int) + (kk : Int)) = (y : Int) := by rw [IntKind.wrap_i64]; omega
      have hnew : (List.range 2).map (edF (carA z) (carV s t) kk) = [.int .i64 y, .int .u64 0] := by
        rw [ed_news]
        unfold carA carV
        rw [hy, if_neg (by omega), if_neg (by omega)]
      have HKT := Lib.hid (show kk < t ∧ t ≤ 512 by omega)
      have HN := Lib.hid hnew
      clear ho hbr hk1 hk2 hkt hy hnew hT
      go_wp2_with (at_builtin; refine wpList_append_lies _ rfl (.tmp 42) (.tmp 51) 115 rfl w.heap.size 147 i0 _ 2 16 Tryz.underlying115 hi0 hz0 hz1 hz2 rfl (by decide) _ kk _ rfl (HO.out.alloc _) ⟨wr.heap.size, 0, none⟩ 1 1 [.int .i64 y, .int .u64 0] rfl rfl (news_new _ _ _) (by simp [Value.oneCell']) (by decide) (by have := HKT.out; unfold maxLen; omega) (by have := HKT.out; omega) (by have := HBR.out.size; simp; omega) (wr.heap.size + 1) (by simp) ?_; intro gA capA wA hownA hgrowA hatA hltA)
      exact ⟨⟨kk + 1, by omega, HKT.out.1, by simp, by rw [flatF_succ, HN.out]; exact hownA, below_own HBR.out HBR.out.size HO.out hgrowA⟩, by have := HKT.out; simp only [intOf]; omega⟩
    · have e : kk = t := by omega
      subst e
      have d1 : ¬ (kk : Int) < (kk : Int) := by omega
      have hT := HT.out
      obtain ⟨ao, cap', rfl⟩ := owns_form _ ho
      rcases Nat.lt_or_ge kk s with hts | hts
      · have d2 : (kk : Int) < (s : Int) := by omega
        have KW2 := Lib.hid (fun w => rword_any (s - kk) false (by omega) w)
        obtain ⟨zt, hzt⟩ : ∃ x, z + kk = x := ⟨_, rfl⟩
        obtain ⟨st, hst⟩ : ∃ x, s - kk = x := ⟨_, rfl⟩
        have wz : IntKind.i64.wrap ((z : Int) + (kk : Int)) = (zt : Int) := by rw [IntKind.wrap_i64]; omega
        have ws : IntKind.i64.wrap ((s : Int) - (kk : Int)) = (st : Int) := by rw [IntKind.wrap_i64]; omega
        have hnew : (List.range 2).map (edF (carA z) (carV s kk) kk) = [.int .i64 zt, .int .u64 (hdr st false : Nat)] := by
          rw [ed_news]
          unfold carA carV
          rw [hzt, hst, if_neg (by omega), if_pos rfl]
        rw [hst] at KW2
        generalize hdr st false = h2 at KW2 hnew
        have HN := Lib.hid hnew
        have HM : Hid (carC kk (takM s kk) = kk + 1) := Lib.hid (by unfold takM; rw [if_pos hts]; rfl)
        have HX := Lib.hid (show kk ≤ 512 by omega)
        have gd2 : g < (wr.alloc (.cells #[.int .i64 zt, .int .u64 h2] 147)).heap.size := by simp; omega
        have gne : (Value.slice ao kk cap').ownBlock ≠ some g := fun e => by have := (ho.lt g e).1; have := HG.out; omega
        have hga : obj (wr.alloc (.cells #[.int .i64 zt, .int .u64 h2] 147)) g = obj wr g := obj_alloc_past wr _ g hgl
        clear ho hbr hk1 hk2 hkt hzt hst hnew hT hts
        go_wp2_with fail
        go_region_held3 (fun w' => cellAt (obj w' g) (off + k * 3) = some (.int .i64 z) ∧ cellAt (obj w' g) (off + k * 3 + 1) = some (.int .i64 s))
          (first
            | exact ⟨hc0, hc1⟩
            | (rw [obj_drew, hga]; exact ⟨hc0, hc1⟩)
            | (rw [hga]; exact ⟨hc0, hc1⟩)
            | exact hS)
          (first
            | (go_at_call 62; refine (KW2.out _).mono ?_; rintro _ _ ⟨rfl, rfl⟩)
            | (refine step_append_row _ (by rfl) (.tmp 60) (.tmp 77) 115 (by rfl) w.heap.size 147 i0 _ 2 16 Tryz.underlying115 hi0 hz0 hz1 hz2 rfl (by decide) (.slice ao kk cap') kk _ (by rfl) (by first | exact (HO.out.alloc _).drew | exact HO.out.drew.alloc _)
                ⟨wr.heap.size, 0, none⟩ 1 1 [.int .i64 zt, .int .u64 h2] (by rfl) (by rfl) (World.news_of_block (cs := #[.int .i64 zt, .int .u64 h2]) (t := 147) (fr := (0, 0)) (heap_alloc_new wr _)) (by simp [Value.oneCell'])
                (kk + 1) rfl (by have := HX.out; unfold maxLen; omega) (by have := HX.out; omega) (by have := HBR.out.size; simp; omega) (wr.heap.size + 1) (by simp) ?_
               intro aoA capA wA hownA hgrow hatA
               have hS : cellAt (obj wA g) (off + k * 3) = some (.int .i64 z) ∧ cellAt (obj wA g) (off + k * 3 + 1) = some (.int .i64 s) := by rw [grow_obj hgrow (by simp; omega) gne, obj_drew, hga]; exact ⟨hc0, hc1⟩))
        have HOA : Hid (wA.ownsRow w.heap.size 147 2 (.slice aoA (kk + 1) capA) (kk + 1) (flatF 2 (edF (carA z) (carV s kk)) (kk + 1))) := Lib.hid (by rw [flatF_succ, HN.out]; exact hownA)
        have HBA : Hid (Below w.heap.size w wA) := Lib.hid (Below.grown ((HBR.out.alloc HBR.out.size _).drew) hgrow (by have := HBR.out.size; simp; omega) (fun j hj => (HO.out.lt j hj).1))
        clear hownA hgrow hatA hS gd2 gne hga hc0 hc1 hc2 hgl
        go_wp2_with fail
        go_ret
        rw [HM.out]
        exact ⟨_, rfl, own_row HOA.out (fun e => by omega), HBA.out⟩
      · have d2 : ¬ (kk : Int) < (s : Int) := by omega
        have HM : Hid (carC kk (takM s kk) = kk) := Lib.hid (by unfold takM; rw [if_neg (by omega)]; rfl)
        have HT0 := Lib.hid (show 2 ≤ kk by omega)
        clear ho hbr hk1 hk2 hkt hT hts
        go_wp2_with fail
        go_ret
        rw [HM.out]
        exact ⟨_, rfl, own_row HO.out (fun e => by have := HT0.out; omega), HBR.out⟩
end Go.Proofs.YtphmfaddgpjndaaGreat

/- The reference model: Is, Within. -/
namespace Go.Proofs.YtphmfaddgpjndaaGreat
open Go.ChangeShapes Go.WideShapes Go.RowKit Go.Maps

set_option maxRecDepth 100000 in
set_option maxHeartbeats 3200000 in
theorem ris_any {w : World} {B N : Nat} {v : Value} {b : Bs} {i : Nat} {o : Int} (h : RowSl w B v 3 b.n (blkF b)) (hb : b.Ok N) (hi : i < b.n) (hp : findP o (b.at i, b.sz i, b.us i) = true) :
    Calls Tryz.prog 71 #[v, .int .i64 o] w fun e w' => e = .returned (.int .i64 i) ∧ Below w.heap.size w w' := by
  have hcn := hb.count
  obtain ⟨hui, hoi, _, _⟩ := findP_bound hb hi hp
  obtain ⟨g, off, cap, rfl, _, _, _, hg, hrow, _⟩ := blk_row h (by omega)
  have HROW := Lib.hid hrow
  have HG := Lib.hid hg
  have HB := Lib.hid hb
  have HI := Lib.hid (And.intro hi hcn)
  have HO := Lib.hid (And.intro hui hoi)
  clear h hb hi hp hcn hg hrow hui hoi
  go_enter Tryz.func71, Tryz.ntmps71
  go_wp2_with fail
  go_loopw [9] (fun ix wr => ∃ j : Nat, j ≤ i ∧ ix = .int .i64 j ∧ Below w.heap.size w wr) (fun ix _ => i + 1 - (intOf ix).toNat)
  case atStart => exact ⟨0, Nat.zero_le _, rfl, Below.refl _ _⟩
  case round =>
    obtain ⟨j, hj, rfl, hbr⟩ := hrel
    have HBR := Lib.hid hbr
    have hI := HI.out
    have hltz : (j : Int) < (b.n : Int) := by omega
    have j0 : (0 : Int) ≤ (j : Int) := Int.natCast_nonneg j
    have wj : IntKind.i64.wrap ((j : Int) + 1) = (j : Int) + 1 := by rw [IntKind.wrap_i64]; omega
    have hr := HROW.out j (by omega)
    rw [← obj_below hbr HG.out] at hr
    have hgw : g < wr.heap.size := by have := hbr.size; have := HG.out; omega
    have hat : j < i → b.at j + b.sz j ≤ b.at i := fun hh => by
      have := b.at_mono (show j + 1 ≤ i by omega)
      rwa [b.at_succ] at this
    have hsz := HB.out.size (show j < b.n by omega)
    have hlt := HB.out.lt (show j < b.n by omega)
    have hbig := HB.out.big
    have hu0 : j = i → b.us j = true := fun e => e ▸ HO.out.1
    have hz0 : j = i → b.at j = b.at i := fun e => by rw [e]
    obtain ⟨u, hu⟩ : ∃ u, b.us j = u := ⟨_, rfl⟩
    obtain ⟨s, hs⟩ : ∃ s, b.sz j = s := ⟨_, rfl⟩
    obtain ⟨a, ha⟩ : ∃ a, b.at j = a := ⟨_, rfl⟩
    rw [hu, hs, ha] at hr
    rw [hu] at hu0
    rw [ha] at hat hz0 hlt
    rw [hs] at hat hsz
    have KO := Lib.hid (fun w => roff_any a s u (by omega) w)
    have hoi := HO.out.2
    obtain ⟨oo, hoo⟩ : ∃ x, (a + 1) * 8 = x := ⟨_, rfl⟩
    rw [hoo] at KO
    cases u
    · have hji : j < i := by
        rcases Nat.lt_or_ge j i with h1 | h1
        · exact h1
        · have := hu0 (by omega); cases this
      have HJ := Lib.hid hji
      clear hbr hj hI hat hsz hlt hbig hu0 hz0 hu hs ha hoi hoo hji KO
      go_wp2_with fail
      exact ⟨⟨j + 1, HJ.out, by simp, HBR.out.alloc HBR.out.size _⟩, by have := HJ.out; simp only [intOf]; omega⟩
    · rcases Nat.lt_or_ge j i with hji | hji
      · have HJ := Lib.hid hji
        have hd : ((oo : Int) == o) = false := by have := hat hji; simp; omega
        clear hbr hj hI hat hsz hlt hbig hu0 hz0 hu hs ha hoi hoo hji
        go_wp2_with fail
        refine (KO.out _).mono ?_
        rintro _ w2 ⟨rfl, hb2⟩
        have HB2 := Lib.hid ((HBR.out.alloc HBR.out.size (.cells #[.int .i64 a, .int .i64 s, .bool true] 45)).trans (hb2.mono (by have := HBR.out.size; simp; omega)))
        clear hb2
        go_wp2_with fail
        exact ⟨⟨j + 1, HJ.out, by simp, HB2.out⟩, by have := HJ.out; simp only [intOf]; omega⟩
      · obtain rfl : j = i := by omega
        have hd : ((oo : Int) == o) = true := by have := hz0 rfl; simp; omega
        clear hbr hj hI hat hsz hlt hbig hu0 hz0 hu hs ha hoi hoo hji
        go_wp2_with fail
        refine (KO.out _).mono ?_
        rintro _ w2 ⟨rfl, hb2⟩
        have HB2 := Lib.hid ((HBR.out.alloc HBR.out.size (.cells #[.int .i64 a, .int .i64 s, .bool true] 45)).trans (hb2.mono (by have := HBR.out.size; simp; omega)))
        clear hb2
        go_wp2_with fail
        go_ret
        exact ⟨rfl, HB2.out⟩
set_option maxRecDepth 100000 in
set_option maxHeartbeats 3200000 in
theorem rwithin_any {w : World} {B N : Nat} {v : Value} {b : Bs} {o n : Int} (h : RowSl w B v 3 b.n (blkF b)) (hb : b.Ok N) (hh : holdsN b o n = true) :
    Calls Tryz.prog 105 #[v, .int .i64 o, .int .i64 n] w fun e w' => e = .returned (.bool true) ∧ Below w.heap.size w w' := by
  have hcn := hb.count
  obtain ⟨hn, i, hi, hui, hoi, hoe⟩ := (holdsN_iff hb).1 hh
  obtain ⟨g, off, cap, rfl, _, _, _, hg, hrow, _⟩ := blk_row h (by omega)
  have HROW := Lib.hid hrow
  have HG := Lib.hid hg
  have HB := Lib.hid hb
  have HI := Lib.hid (And.intro hi hcn)
  have HO := Lib.hid (And.intro hui (And.intro hoi (And.intro hoe hn)))
  have dn1 : ¬ n < 0 := by omega
  have dn2 : ¬ n > 448 := by omega
  clear h hb hi hcn hg hrow hui hoi hoe hn hh
  go_enter Tryz.func105, Tryz.ntmps105
  go_wp2_with fail
  go_loopw [18] (fun ix wr => ∃ j : Nat, j ≤ i ∧ ix = .int .i64 j ∧ Below w.heap.size w wr) (fun ix _ => i + 1 - (intOf ix).toNat)
  case atStart => exact ⟨0, Nat.zero_le _, rfl, Below.refl _ _⟩
  case round =>
    obtain ⟨j, hj, rfl, hbr⟩ := hrel
    have HBR := Lib.hid hbr
    have hI := HI.out
    have hltz : (j : Int) < (b.n : Int) := by omega
    have j0 : (0 : Int) ≤ (j : Int) := Int.natCast_nonneg j
    have wj : IntKind.i64.wrap ((j : Int) + 1) = (j : Int) + 1 := by rw [IntKind.wrap_i64]; omega
    have hr := HROW.out j (by omega)
    rw [← obj_below hbr HG.out] at hr
    have hgw : g < wr.heap.size := by have := hbr.size; have := HG.out; omega
    have hat : j < i → b.at j + b.sz j ≤ b.at i := fun hh => by
      have := b.at_mono (show j + 1 ≤ i by omega)
      rwa [b.at_succ] at this
    have hsz := HB.out.size (show j < b.n by omega)
    have hle := HB.out.le (show j < b.n by omega)
    have hbig := HB.out.big
    have hu0 : j = i → b.us j = true := fun e => e ▸ HO.out.1
    have hz0 : j = i → b.at j = b.at i ∧ b.sz j = b.sz i := fun e => by rw [e]; exact ⟨rfl, rfl⟩
    obtain ⟨u, hu⟩ : ∃ u, b.us j = u := ⟨_, rfl⟩
    obtain ⟨s, hs⟩ : ∃ s, b.sz j = s := ⟨_, rfl⟩
    obtain ⟨a, ha⟩ : ∃ a, b.at j = a := ⟨_, rfl⟩
    rw [hu, hs, ha] at hr
    rw [hu] at hu0
    rw [ha] at hat hz0 hle
    rw [hs] at hat hsz hle hz0
    have KO := Lib.hid (fun w => roff_any a s u (by omega) w)
    obtain ⟨_, hoi, hoe, hn⟩ := HO.out
    obtain ⟨oo, hoo⟩ : ∃ x, (a + 1) * 8 = x := ⟨_, rfl⟩
    rw [hoo] at KO
    obtain ⟨e1, he1⟩ : ∃ x, a + s = x := ⟨_, rfl⟩
    have w1 : IntKind.i64.wrap ((a : Int) + (s : Int)) = (e1 : Int) := by rw [IntKind.wrap_i64]; omega
    obtain ⟨e2, he2⟩ : ∃ x, e1 * 8 = x := ⟨_, rfl⟩
    have w2 : IntKind.i64.wrap ((e1 : Int) * 8) = (e2 : Int) := by rw [IntKind.wrap_i64]; omega
    cases u
    · have hji : j < i := by
        rcases Nat.lt_or_ge j i with h1 | h1
        · exact h1
        · have := hu0 (by omega); cases this
      have HJ := Lib.hid hji
      clear hbr hj hI hat hsz hle hbig hu0 hz0 hu hs ha hoi hoe hn hoo he1 he2 hji KO
      go_wp2_with fail
      exact ⟨⟨j + 1, HJ.out, by simp, HBR.out.alloc HBR.out.size _⟩, by have := HJ.out; simp only [intOf]; omega⟩
    · rcases Nat.lt_or_ge j i with hji | hji
      · have HJ := Lib.hid hji
        have hd : o ≥ (oo : Int) := by have := hat hji; omega
        have hd2 : ¬ o ≤ (e2 : Int) := by have := hat hji; omega
        clear hbr hj hI hat hsz hle hbig hu0 hz0 hu hs ha hoi hoe hn hoo he1 he2 hji
        go_wp2_with fail
        refine (KO.out _).mono ?_
        rintro _ w2 ⟨rfl, hb2⟩
        have HB2 := Lib.hid ((HBR.out.alloc HBR.out.size (.cells #[.int .i64 a, .int .i64 s, .bool true] 45)).trans (hb2.mono (by have := HBR.out.size; simp; omega)))
        clear hb2
        go_wp2_with fail
        exact ⟨⟨j + 1, HJ.out, by simp, HB2.out⟩, by have := HJ.out; simp only [intOf]; omega⟩
      · obtain rfl : j = i := by omega
        have hz1 := hz0 rfl
        have hd : o ≥ (oo : Int) := by omega
        have hd2 : o ≤ (e2 : Int) := by omega
        have w3 : IntKind.i64.wrap ((e2 : Int) - o) = (e2 : Int) - o := by rw [IntKind.wrap_i64]; omega
        have hd3 : n ≤ (e2 : Int) - o := by omega
        clear hbr hj hI hat hsz hle hbig hu0 hz0 hu hs ha hoi hoe hn hoo he1 he2 hji hz1
        go_wp2_with fail
        refine (KO.out _).mono ?_
        rintro _ w2 ⟨rfl, hb2⟩
        have HB2 := Lib.hid ((HBR.out.alloc HBR.out.size (.cells #[.int .i64 a, .int .i64 s, .bool true] 45)).trans (hb2.mono (by have := HBR.out.size; simp; omega)))
        clear hb2
        go_wp2_with fail
        go_ret
        exact ⟨rfl, HB2.out⟩
end Go.Proofs.YtphmfaddgpjndaaGreat
