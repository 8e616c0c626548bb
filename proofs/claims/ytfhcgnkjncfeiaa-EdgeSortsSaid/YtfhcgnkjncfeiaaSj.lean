/- slices.Clone, edge.Sort, same; the reference's Max; rows that are sorted have the same places. -/
import Derived.Test.YtfhcgnkjncfeiaaSi
import Derived.OwnWalk
import Derived.Lib.SliceRun
namespace Go.Proofs.Ytfhcgnkjncfeiaa
open Go.ChangeShapes Go.WideShapes Go.RowKit Fl

theorem row_of_own {w w0 : World} {base n : Nat} {v : Value} {F : Nat → Nat} (h : w.ownsRow base 25 1 v n (rowF F n)) (hn : 0 < n) (hb : Below base w0 w) :
    ∃ g cap, v = .slice (some ⟨g, 0, none⟩) n cap ∧ RowG w w0 base g n F ∧ n ≤ cap ∧ cap ≤ 9223372036854775807 := by
  rcases h.2 with ⟨_, h0⟩ | ⟨g, cap, cur, rfl, hbg, hg, hc1, hc2, _, ht⟩
  · omega
  · refine ⟨g, cap, rfl, ⟨⟨cur, hg, fun j hj => ?_⟩, hb, hbg⟩, hc1, by unfold maxLen at hc2; omega⟩
    have h1 : (cur.toList.take (n * 1))[j]? = (rowF F n)[j]? := by rw [ht]
    rw [List.getElem?_take, if_pos (by omega), rowF_get F n j hj] at h1
    unfold nth
    rw [← Array.getElem?_toList, h1]
theorem RowG.slF {w w0 : World} {base g n cap : Nat} {R : Nat → Nat} (h : RowG w w0 base g n R) (hn : 0 < n) (h1 : n ≤ cap) (h2 : cap ≤ 9223372036854775807) : SlF w (.slice (some ⟨g, 0, none⟩) n cap) n R :=
  Or.inr ⟨g, 0, cap, rfl, hn, h1, h2, fun j hj => by rw [Nat.zero_add]; exact (h.cell j hj).1⟩
theorem rowF_one (f : Nat → Nat) (k : Nat) : ∀ u ∈ rowF f k, u.oneCell' = true := by
  intro u hu
  unfold rowF at hu
  obtain ⟨_, _, rfl⟩ := List.mem_map.1 hu
  rfl
theorem rowF_len (f : Nat → Nat) (k : Nat) : (rowF f k).length = k := by simp [rowF]
theorem newsF_at {w w2 : World} {b off m : Nat} {F : Nat → Nat} (hI : ∀ j, j < m → cellAt (obj w b) (off + j) = some (.float .f64 (F j))) (hb : Below w.heap.size w w2) : ∀ j u, (rowF F m)[j]? = some u → w2.cell? ((⟨b, off, none⟩ : Addr).add j) = some u := by
  intro j u hu
  have hj : j < m := by
    rcases Nat.lt_or_ge j m with h | h
    · exact h
    · rw [List.getElem?_eq_none (by rw [rowF_len]; exact h)] at hu; cases hu
  rw [rowF_get _ _ _ hj] at hu
  rw [← Option.some.inj hu, addr_add, cell?_heap]
  exact cell_kept hb (hI j hj)

set_option maxHeartbeats 1600000 in
theorem clone_any (w : World) (v : Value) (n : Nat) (F : Nat → Nat) (h : SlF w v n F) (hn : n ≤ 1000) :
    Calls Try.prog 85 #[v] w fun e w' => ∃ v', e = .returned v' ∧ Below w.heap.size w w' ∧ (0 < n → w'.ownsRow w.heap.size 25 1 v' n (rowF F n)) ∧ (n = 0 → ∃ ao cap, v' = .slice ao 0 cap) := by
  obtain ⟨i0, hi0, hz0, hz1, hz2⟩ := info_parts info25
  have hmade := World.ownsRow_made (e := 25) (size := 1) w #[] 0 (Nat.le_refl _) (by unfold maxLen; omega) rfl
  rcases h with ⟨ao, cap, rfl, rfl⟩ | ⟨b, off, cap, rfl, h0, h1, h2, h3⟩
  · cases ao with
    | none =>
      have hnil : ∀ w : World, (binOp .eql 60 (.slice none 0 cap) (.slice none 0 0)).run Try.prog w = .ok (.bool true) w := fun w => Lib.run_eql_slice_nil w 60 25 _ _ _ _ _ Try.underlying60
      go_enter Try.func85, Try.ntmps85
      go_wp2
      go_ret
      exact ⟨_, rfl, Below.refl _ _, fun e => absurd e (by omega), fun _ => ⟨_, _, rfl⟩⟩
    | some a =>
      have hnil : ∀ w : World, (binOp .eql 60 (.slice (some a) 0 cap) (.slice none 0 0)).run Try.prog w = .ok (.bool false) w := fun w => Lib.run_eql_slice_nil w 60 25 _ _ _ _ _ Try.underlying60
      have hM := Lib.hid hmade
      clear hmade
      go_enter Try.func85, Try.ntmps85
      go_wp2_with (at_builtin; refine wpList_append_own _ rfl (.tmp 5) (.tmp 6) 60 rfl w.heap.size 25 i0 _ 1 8 Try.underlying60 hi0 hz0 hz1 hz2 rfl (by omega) (.slice (some ⟨w.heap.size, 0, none⟩) 0 0) 0 [] rfl hM.out a 0 cap [] rfl (by simp) (by simp) (by simp) (by unfold maxLen; omega) (by omega) (by simp) ?_; intro v' w1 hown hgrow _)
      go_ret
      obtain ⟨ao2, cap2, hv⟩ := own_form hown
      exact ⟨v', rfl, ((Below.refl _ _).alloc (Nat.le_refl _) _).grown hgrow (by simp) fun j hj => by
        have : w.heap.size = j := by simpa [Value.ownBlock] using hj
        omega, ao2, cap2, hv⟩
  · have hnil : ∀ w : World, (binOp .eql 60 (.slice (some ⟨b, off, none⟩) n cap) (.slice none 0 0)).run Try.prog w = .ok (.bool false) w := fun w => Lib.run_eql_slice_nil w 60 25 _ _ _ _ _ Try.underlying60
    have hcell := newsF_at (w2 := w.alloc (.cells #[] 25)) h3 ((Below.refl _ _).alloc (Nat.le_refl _) _)
    have hH := Lib.hid hcell
    have hM := Lib.hid hmade
    have HN := Lib.hid (show 0 < n ∧ n ≤ 1000 from ⟨h0, hn⟩)
    clear hcell hmade h3 h1 h2 h0 hn
    go_enter Try.func85, Try.ntmps85
    go_wp2_with (at_builtin; refine wpList_append_own _ rfl (.tmp 5) (.tmp 6) 60 rfl w.heap.size 25 i0 _ 1 8 Try.underlying60 hi0 hz0 hz1 hz2 rfl (by omega) (.slice (some ⟨w.heap.size, 0, none⟩) 0 0) 0 [] rfl hM.out ⟨b, off, none⟩ n cap (rowF F n) rfl (by rw [rowF_len]; omega) hH.out (rowF_one _ _) (by have := HN.out; unfold maxLen; omega) (by have := HN.out; omega) (by simp) ?_; intro v' w1 hown hgrow _)
    go_ret
    simp only [Nat.zero_add, List.nil_append] at hown
    exact ⟨v', rfl, ((Below.refl _ _).alloc (Nat.le_refl _) _).grown hgrow (by simp) fun j hj => by
        have : w.heap.size = j := by simpa [Value.ownBlock] using hj
        omega, fun _ => hown, fun e => by have := HN.out; omega⟩
set_option maxHeartbeats 1600000 in
theorem insertion_none (ao : Option Addr) (cap : Nat) (w : World) : Calls Try.prog 91 #[.slice ao 0 cap, .int .i64 0, .int .i64 0, CMPF] w fun e w' => e = .returned (.tuple #[]) ∧ w = w' := by
  unfold CMPF
  go_enter Try.func91, Try.ntmps91
  go_wp2_with fail
  go_loopw [8] (fun iv wr => iv = .int .i64 1 ∧ wr = w) (fun _ _ => 0)
  case atStart => exact ⟨rfl, rfl⟩
  case round =>
    obtain ⟨rfl, rfl⟩ := hrel
    go_wp2
    go_end0
    exact ⟨rfl, rfl⟩
set_option maxHeartbeats 1600000 in
theorem sortStable_none (ao : Option Addr) (cap : Nat) (w : World) : Calls Try.prog 86 #[.slice ao 0 cap, CMPF] w fun e w' => e = .returned (.tuple #[]) ∧ w = w' := by
  have K : Calls Try.prog 90 #[.slice ao 0 cap, .int .i64 0, CMPF] w fun e w' => e = .returned (.tuple #[]) ∧ w = w' := by
    have K := insertion_none ao cap w
    unfold CMPF at K ⊢
    have K := Lib.hid K
    go_enter Try.func90, Try.ntmps90
    go_wp2_with fail
    go_loopw [7, 8] (fun av bv wr => av = .int .i64 0 ∧ bv = .int .i64 20 ∧ wr = w) (fun _ _ _ => 0)
    case atStart => exact ⟨rfl, rfl, rfl⟩
    case round =>
      obtain ⟨rfl, rfl, rfl⟩ := hrel
      go_wp2_with fail
      refine K.out.mono ?_
      rintro _ w5 ⟨rfl, rfl⟩
      go_wp2_with fail
      go_loopw [6, 7, 8, 9] (fun sv _ _ _ wr2 => sv = .int .i64 20 ∧ wr2 = wr) (fun _ _ _ _ _ => 0)
      case atStart => exact ⟨rfl, rfl⟩
      case round =>
        obtain ⟨rfl, rfl⟩ := hrel
        go_wp2_with fail
        go_end0
        exact ⟨rfl, rfl⟩
  unfold CMPF at K ⊢
  have K := Lib.hid K
  go_enter Try.func86, Try.ntmps86
  go_wp2_with fail
  refine K.out.mono ?_
  rintro _ w5 ⟨rfl, rfl⟩
  go_wp2_with fail
  go_end0
  exact ⟨rfl, rfl⟩
theorem wd_perm {R F : Nat → Nat} {n : Nat} (h : (first R n).Perm (first F n)) (hF : ∀ j, Wd (F j)) : ∀ j, j < n → Wd (R j) := by
  intro j hj
  have hm : R j ∈ first R n := by unfold first; exact List.mem_map.2 ⟨j, List.mem_range.2 hj, rfl⟩
  have := h.mem_iff.1 hm
  unfold first at this
  obtain ⟨x, _, e⟩ := List.mem_map.1 this
  rw [← e]; exact hF x
set_option maxHeartbeats 1600000 in
/-- edge.Sort -/
theorem esort_any (w : World) (v : Value) (n : Nat) (F : Nat → Nat) (h : SlF w v n F) (hF : ∀ j, Wd (F j)) (hn : n ≤ 1000) :
    Calls Try.prog 63 #[v] w fun e w' => ∃ v' R', e = .returned v' ∧ SlF w' v' n R' ∧ (first R' n).Perm (first F n) ∧ Ordd R' 0 n ∧ (∀ j, Wd (R' j)) ∧ Below w.heap.size w w' := by
  have K := Lib.hid (clone_any w v n F h hn)
  have HF := Lib.hid hF
  have HN := Lib.hid hn
  obtain ⟨ao, cap, rfl⟩ := h.form
  clear h hF hn
  go_enter Try.func63, Try.ntmps63
  go_wp2_with fail
  refine K.out.mono ?_
  rintro _ w1 ⟨v1, rfl, hb, hp, hz⟩
  by_cases h0 : n = 0
  · obtain ⟨ao2, cap2, rfl⟩ := hz h0
    have K2 := sortStable_none ao2 cap2 w1
    unfold CMPF at K2
    have K2 := Lib.hid K2
    have HB := Lib.hid hb
    have H0 := Lib.hid h0
    clear hb hp hz h0
    go_wp2_with fail
    refine K2.out.mono ?_
    rintro _ w2 ⟨rfl, rfl⟩
    go_wp2_with fail
    go_ret
    exact ⟨_, F, rfl, Or.inl ⟨_, _, rfl, H0.out⟩, List.Perm.refl _, fun i j _ _ hj => (by have := H0.out; omega), HF.out, HB.out⟩
  · obtain ⟨g, cap2, rfl, hr, c1, c2⟩ := row_of_own (hp (by omega)) (by omega) hb
    have K2 := sortStable_any hr HF.out cap2 (by have := HN.out; omega)
    unfold CMPF at K2
    have K2 := Lib.hid K2
    have HB := Lib.hid hb
    have HC := Lib.hid (show 0 < n ∧ n ≤ cap2 ∧ cap2 ≤ 9223372036854775807 from ⟨by omega, c1, c2⟩)
    clear hb hp hz h0 hr c1 c2
    go_wp2_with fail
    refine K2.out.mono ?_
    rintro _ w2 ⟨rfl, R', h5, s5, o5⟩
    have H5 := Lib.hid h5
    have S5 := Lib.hid s5
    have O5 := Lib.hid o5
    clear h5 s5 o5
    go_wp2_with fail
    go_ret
    exact ⟨_, R', rfl, H5.out.slF HC.out.1 HC.out.2.1 HC.out.2.2, S5.out.2.1, O5.out, S5.out.wd HF.out, H5.out.hb⟩
set_option maxRecDepth 100000 in
set_option maxHeartbeats 3200000 in
/-- same, of rows that are -/
theorem rows_same (w : World) (v v' : Value) (n : Nat) (F G : Nat → Nat) (h : SlF w v n F) (h' : SlF w v' n G) (hF : ∀ j, j < n → Wd (F j)) (hG : ∀ j, j < n → Wd (G j)) (hs : ∀ j, j < n → ecmp (F j) (G j) = 0) (hn : n ≤ 100000) :
    Calls Try.prog 62 #[v, v'] w fun e w' => e = .returned (.bool true) ∧ ∃ d, w' = w.drewN d := by
  obtain ⟨ao, cap, rfl⟩ := h.form
  obtain ⟨ao', cap', rfl⟩ := h'.form
  have HV := Lib.hid h
  have HV' := Lib.hid h'
  have HF := Lib.hid hF
  have HG := Lib.hid hG
  have HS := Lib.hid hs
  have HN := Lib.hid hn
  clear h h' hF hG hs hn
  go_enter Try.func62, Try.ntmps62
  go_wp2_with fail
  go_loopw [13] (fun iv wr => ∃ i d : Nat, i ≤ n ∧ iv = .int .i64 i ∧ wr = w.drewN d) (fun iv _ => n - (intOf iv).toNat)
  case atStart => exact ⟨0, 0, Nat.zero_le _, rfl, rfl⟩
  case round =>
    obtain ⟨i, d, hi, rfl, hwr⟩ := hrel
    by_cases hlt : i < n
    · have hltz : (i : Int) < (n : Int) := by omega
      have wi : IntKind.i64.wrap ((i : Int) + 1) = ((i + 1 : Nat) : Int) := by have := HN.out; rw [IntKind.wrap_i64]; omega
      have i0 : (0 : Int) ≤ (i : Int) := Int.natCast_nonneg i
      rcases HV.out with ⟨_, _, _, e⟩ | ⟨b1, o1, c1, e1, _, _, _, hI⟩
      · exfalso; omega
      obtain ⟨rfl, rfl⟩ : ao = some ⟨b1, o1, none⟩ ∧ cap = c1 := by simpa using e1
      rcases HV'.out with ⟨_, _, _, e⟩ | ⟨b2, o2, c2, e2, _, _, _, hI2⟩
      · exfalso; omega
      obtain ⟨rfl, rfl⟩ : ao' = some ⟨b2, o2, none⟩ ∧ cap' = c2 := by simpa using e2
      have cx : cellAt (obj wr b1) (o1 + i) = some (.float .f64 (F i)) := by rw [hwr]; exact hI i hlt
      have cy : cellAt (obj wr b2) (o2 + i) = some (.float .f64 (G i)) := by rw [hwr]; exact hI2 i hlt
      have dc := HS.out i hlt
      have KC : ∀ d, Calls Try.prog 29 #[.float .f64 (F i), .float .f64 (G i)] (wr.drewN d) fun e w' => e = .returned (.int .i64 0) ∧ w' = wr.drewN d := fun d => by
        have := rcmp_any (F i) (G i) (wr.drewN d) (HF.out i hlt) (HG.out i hlt)
        rw [dc] at this
        exact this.mono fun _ _ ⟨h1, h2⟩ => ⟨h1, h2.symm⟩
      have KC := Lib.hid KC
      have HLT := Lib.hid hlt
      have HWR := Lib.hid hwr
      obtain ⟨i', hi'⟩ : ∃ i', i' = i + 1 := ⟨_, rfl⟩
      rw [← hi'] at wi
      have HI' := Lib.hid hi'
      clear hlt hi hI hI2 e1 e2 dc hwr hi'
      go_wp2_with fail
      refine wp_region_quiet_lit (by kernel_rfl) (by kernel_rfl) ?_
      repeat (go_big_quiet_step ((go_at_call 29; exact Calls.quiet_of_same (KC.out _))))
      refine wpQuiet_nil ?_
      intro _ hw'
      obtain ⟨nq, hw''⟩ := hw'
      subst hw''
      go_wp2_with fail
      exact ⟨⟨i', d + nq, by have := HI'.out; have := HLT.out; omega, rfl, by rw [HWR.out]; exact World.drewN_drewN ..⟩, by have := HI'.out; have := HLT.out; simp only [intOf]; omega⟩
    · have : i = n := by omega
      subst this
      have hltz : ¬ (i : Int) < (i : Int) := by omega
      have HWR := Lib.hid hwr
      clear hlt hi hwr
      go_wp2
      go_ret
      exact ⟨rfl, d, HWR.out⟩
/-- in order, as lists have it -/
theorem srt_first {R : Nat → Nat} {n : Nat} (h : Ordd R 0 n) : Srt (first R n) := by
  refine List.pairwise_iff_getElem.2 fun i j hi hj hij => ?_
  rw [first_len] at hi hj
  have e1 : (first R n)[i] = R i := by
    have := first_get R n i hi
    rw [List.getElem?_eq_getElem (by rw [first_len]; exact hi)] at this; exact Option.some.inj this
  have e2 : (first R n)[j] = R j := by
    have := first_get R n j hj
    rw [List.getElem?_eq_getElem (by rw [first_len]; exact hj)] at this; exact Option.some.inj this
  rw [e1, e2]
  exact h i j (Nat.zero_le _) hij hj
/-- two rows in order of the same numbers have the same places -/
theorem srt_ranks {s t : List Nat} (h : s.Perm t) (hs : Srt s) (ht : Srt t) : s.map rank = t.map rank := by
  refine List.Perm.eq_of_pairwise (le := fun a b : Int => a ≤ b) ?_ ?_ ?_ (h.map rank)
  · intro a b _ _ h1 h2; omega
  · exact List.pairwise_map.2 hs
  · exact List.pairwise_map.2 ht
theorem ord_same {R G : Nat → Nat} {n : Nat} (h : (first R n).Perm (first G n)) (hR : Ordd R 0 n) (hG : Ordd G 0 n) : ∀ j, j < n → ecmp (R j) (G j) = 0 := by
  intro j hj
  have := srt_ranks h (srt_first hR) (srt_first hG)
  have := congrArg (fun l => l[j]?) this
  simp only [List.getElem?_map, first_get _ _ _ hj, Option.map_some, Option.some.injEq] at this
  exact (ecmp_eq_iff _ _).2 this
theorem SortAt.fn {w w0 : World} {base n : Nat} {F : Nat → Nat} {v : Value} {s : List Nat} (h : SortAt w w0 base F n v s) : s = first (fun j => s.getD j 0) n := by
  apply List.ext_getElem?
  intro x
  by_cases hx : x < n
  · rw [first_get _ _ _ hx, List.getElem?_eq_getElem (by rw [h.hl]; exact hx), List.getD_eq_getElem?_getD, List.getElem?_eq_getElem (by rw [h.hl]; exact hx)]; rfl
  · rw [List.getElem?_eq_none (by rw [h.hl]; omega), List.getElem?_eq_none (by rw [first_len]; omega)]
theorem SortAt.ordd {w w0 : World} {base n : Nat} {F : Nat → Nat} {v : Value} {s : List Nat} (h : SortAt w w0 base F n v s) : Ordd (fun j => s.getD j 0) 0 n := by
  intro i j _ hij hj
  have e : ∀ x, x < n → ∃ hx : x < s.length, s.getD x 0 = s[x] := fun x hx => ⟨by rw [h.hl]; exact hx, by rw [List.getD_eq_getElem?_getD, List.getElem?_eq_getElem (by rw [h.hl]; exact hx)]; rfl⟩
  obtain ⟨h1, e1⟩ := e i (by omega)
  obtain ⟨h2, e2⟩ := e j hj
  simp only [e1, e2]
  exact (List.pairwise_iff_getElem.1 h.hs) i j h1 h2 hij
theorem SortAt.slF {w w0 : World} {base n : Nat} {F : Nat → Nat} {v : Value} {s : List Nat} (h : SortAt w w0 base F n v s) : SlF w v n (fun j => s.getD j 0) := by
  refine own_slF (base := base) ?_ h.hz
  have e : rowF (fun j => s.getD j 0) n = flts s := by
    conv => rhs; rw [h.fn]
    unfold rowF flts first; simp
  rw [e]; exact h.ho
/-- the last of a row in order -/
theorem SortAt.most {w w0 : World} {base n : Nat} {F : Nat → Nat} {v : Value} {s : List Nat} (h : SortAt w w0 base F n v s) (hn : 0 < n) : (∀ j, j < n → rank (F j) ≤ rank (s.getD (n - 1) 0)) ∧ ∃ j, j < n ∧ s.getD (n - 1) 0 = F j := by
  have hl : n - 1 < s.length := by rw [h.hl]; omega
  have hg : s.getD (n - 1) 0 = s[n - 1] := by rw [List.getD_eq_getElem?_getD, List.getElem?_eq_getElem hl]; rfl
  constructor
  · intro j hj
    have hm : F j ∈ s := h.hp.mem_iff.2 (by unfold first; exact List.mem_map.2 ⟨j, List.mem_range.2 hj, rfl⟩)
    obtain ⟨i, hi, e⟩ := List.getElem_of_mem hm
    rw [hg, ← e]
    rcases Nat.lt_or_ge i (n - 1) with h0 | h0
    · exact (List.pairwise_iff_getElem.1 h.hs) i (n - 1) hi hl h0
    · have : i = n - 1 := by have := h.hl; omega
      subst this; exact Int.le_refl _
  · have hm : s[n - 1] ∈ s := List.getElem_mem hl
    have := h.hp.mem_iff.1 hm
    unfold first at this
    obtain ⟨j, hj, e⟩ := List.mem_map.1 this
    exact ⟨j, List.mem_range.1 hj, by rw [hg, e]⟩
set_option maxHeartbeats 1600000 in
theorem rmax_any (w : World) (v : Value) (n : Nat) (F : Nat → Nat) (h : SlF w v n F) (hF : ∀ j, Wd (F j)) (hn : n ≤ 100000) :
    Calls Try.prog 65 #[v] w fun e w' => ∃ z, e = .returned (.float .f64 z) ∧ Below w.heap.size w w' ∧ (n = 0 → z = NANW) ∧ (0 < n → (∀ j, j < n → rank (F j) ≤ rank z) ∧ ∃ j, j < n ∧ z = F j) := by
  by_cases h0 : n = 0
  · have hh := h
    obtain ⟨ao, cap, rfl⟩ := h.form
    have z1 : ((n : Int) == 0) = true := by rw [h0]; rfl
    have z2 : decide (n = 0) = true := decide_eq_true h0
    have H0 := Lib.hid h0
    clear h hh hF hn h0
    go_enter Try.func65, Try.ntmps65
    go_wp2_with (first | (go_at_call 36; refine (cmp_any _ _ _ (by assumption) (by assumption)).mono ?_; rintro _ _ ⟨rfl, rfl⟩) | (go_at_call 30; refine (same_any _ _ _ (by assumption) (by assumption)).mono ?_; rintro _ _ ⟨rfl, rfl⟩) | (go_at_call 68; refine (isNaN_any _ _).mono ?_; rintro _ _ ⟨rfl, rfl⟩) | (go_at_call 28; refine (isInf_any _ _ (by assumption) (by assumption)).mono ?_; rintro _ _ ⟨rfl, rfl⟩) | (go_at_call 40; refine (nan_any _).mono ?_; rintro _ _ ⟨rfl, rfl⟩) | (go_at_call 39; refine (infPos_any _).mono ?_; rintro _ _ ⟨rfl, rfl⟩) | (go_at_call 39; refine (infNeg_any _).mono ?_; rintro _ _ ⟨rfl, rfl⟩) | (go_at_call 46; refine (negNought_any _).mono ?_; rintro _ _ ⟨rfl, rfl⟩) | (go_at_call 43; refine (bit_any _ _).mono ?_; rintro _ _ ⟨rfl, rfl⟩))
    go_ret
    exact ⟨_, rfl, Below.refl _ _, fun _ => rfl, fun e => (by have := H0.out; omega)⟩
  · have K := Lib.hid (rsort_any w v n F h hF hn)
    obtain ⟨ao, cap, rfl⟩ := h.form
    have z1 : ((n : Int) == 0) = false := by simp; exact h0
    have z2 : decide (n = 0) = false := decide_eq_false h0
    obtain ⟨t, ht⟩ : ∃ t, t = n - 1 := ⟨_, rfl⟩
    have wt : IntKind.i64.wrap ((n : Int) - 1) = (t : Int) := by rw [IntKind.wrap_i64]; omega
    have t0 : (0 : Int) ≤ (t : Int) := Int.natCast_nonneg t
    have t1 : (t : Int) < (n : Int) := by omega
    have n0' : 0 < n := by omega
    have HN0 := Lib.hid n0'
    have HT := Lib.hid (show t = n - 1 ∧ t < n from ⟨ht, by omega⟩)
    clear h hF hn ht
    go_enter Try.func65, Try.ntmps65
    go_wp2_with fail
    refine K.out.mono ?_
    rintro _ w1 ⟨v', s, rfl, hs⟩
    have HS := Lib.hid hs
    obtain ⟨gr, capr, rfl, _, _, _, _, hc⟩ := own_at hs.ho HN0.out
    have c0 : cellAt (obj w1 gr) t = some (.float .f64 (s.getD t 0)) := by
      have := hc t HT.out.2
      rw [Nat.zero_add] at this
      rw [this]; unfold flts
      rw [List.getElem?_map, List.getElem?_eq_getElem (by rw [hs.hl]; exact HT.out.2), List.getD_eq_getElem?_getD, List.getElem?_eq_getElem (by rw [hs.hl]; exact HT.out.2)]; rfl
    obtain ⟨z, hz⟩ : ∃ z, s.getD t 0 = z := ⟨_, rfl⟩
    rw [hz] at c0
    have HZ := Lib.hid hz
    clear hs hc hz
    go_wp2
    go_ret
    refine ⟨z, rfl, HS.out.hb, fun e => absurd e (by have := HN0.out; omega), fun _ => ?_⟩
    rw [← HZ.out, HT.out.1]; exact HS.out.most HN0.out
theorem minAt_le (f : Nat → Nat) (i : Nat) : ∀ j, j ≤ i → rank (minAt f i) ≤ rank (f j) := by
  induction i with
  | zero => intro j hj; have : j = 0 := by omega
            subst this; exact Int.le_refl _
  | succ i ih =>
    intro j hj
    unfold minAt
    split
    · rename_i hx
      have hx := (ecmp_lt_iff _ _).1 hx
      by_cases e : j = i + 1
      · subst e; exact Int.le_refl _
      · have := ih j (by omega); omega
    · rename_i hx
      have hx : ¬ rank (f (i + 1)) < rank (minAt f i) := fun h => hx ((ecmp_lt_iff _ _).2 h)
      by_cases e : j = i + 1
      · subst e; omega
      · exact ih j (by omega)
theorem maxAt_le (f : Nat → Nat) (i : Nat) : ∀ j, j ≤ i → rank (f j) ≤ rank (maxAt f i) := by
  induction i with
  | zero => intro j hj; have : j = 0 := by omega
            subst this; exact Int.le_refl _
  | succ i ih =>
    intro j hj
    unfold maxAt
    split
    · rename_i hx
      have hx := (ecmp_gt_iff _ _).1 hx
      by_cases e : j = i + 1
      · subst e; exact Int.le_refl _
      · have := ih j (by omega); omega
    · rename_i hx
      have hx : ¬ rank (maxAt f i) < rank (f (i + 1)) := fun h => hx ((ecmp_gt_iff _ _).2 h)
      by_cases e : j = i + 1
      · subst e; omega
      · exact ih j (by omega)
theorem minAt_in (f : Nat → Nat) (i : Nat) : ∃ j, j ≤ i ∧ minAt f i = f j := minAt_of (P := fun z => ∃ j, j ≤ i ∧ z = f j) i fun j hj => ⟨j, hj, rfl⟩
theorem maxAt_in (f : Nat → Nat) (i : Nat) : ∃ j, j ≤ i ∧ maxAt f i = f j := maxAt_of (P := fun z => ∃ j, j ≤ i ∧ z = f j) i fun j hj => ⟨j, hj, rfl⟩
end Go.Proofs.Ytfhcgnkjncfeiaa
